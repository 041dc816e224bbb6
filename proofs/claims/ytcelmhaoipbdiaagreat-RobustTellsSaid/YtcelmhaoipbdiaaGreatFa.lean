/- Parts of the proof, joined: Pln1, Pln2, Tar1, Vbt1, Rob1, Rob2, Rob3, Rob4, Rob5, Rob6, Rob7. -/
import Derived.Test.YtcelmhaoipbdiaaGreatDg
import Derived.Test.YtcelmhaoipbdiaaGreatDa
import Derived.Test.YtcelmhaoipbdiaaGreatDf
namespace Go.Proofs.YtcelmhaoipbdiaaGreat
set_option linter.all false
open Go.Vm
attribute [local simp] ly lz kF lx
structure Pn where
 f:Int
 l:List (List Int)
abbrev Pn.row(p:Pn):List V:=[i64 p.f,j0 p.l]
abbrev pn(p:Pn):V:=.agg p.row
noncomputable def Ey(c:Cs)(l:List (List Int))(i:Nat):Int:=if (nth l i).length=c.s.length then (if dF (nth l i) 1073741824 then 0 else 1) else 51
noncomputable def oD(c:Cs)(p:Pn):Int:=if eQ c≠0 then eQ c else if 0≤p.f∧p.f≤16777216 then (if 96<p.l.length then 10 else du (Ey c p.l) p.l.length 0) else 6
theorem awX(n:Int)(G:List aP):aX F 108 [i64 n] G=some (.bool (!decide (0≤n∧n≤1073741824)),G) :=
 bL rfl rfl (by
  simp[wrap64,ab8];by_cases h1:n<0
  ·simp[wrap64,h1,show ¬ 0≤n by omega]
  ·simp[wrap64,h1,show 0≤n by omega]
   by_cases h2:n≤1073741824
   ·simp[wrap64,h2,show ¬ 1073741824<n by omega]
   ·simp[wrap64,h2,show 1073741824<n by omega])
theorem ahH(c:Cs)(hr:im c.r)(p:Pn)(G:List aP):aX F 65 [cs c,pn p] G=some (i64 (oD c p),G) :=
 bL rfl rfl (by
  obtain⟨t,l⟩:=p;generalize hW:oD c ⟨t,l⟩=W;unfold oD at hW;simp only at hW;have h0:=NX c hr;by_cases h1:eQ c=0
  case neg =>
   rw[aK h1]at hW;simp (disch:=omega) [-getElem?_pos,wrap64,FX,h0,h1];exact hW
  rw[av (by omega)]at hW
  have hs:=(jM h1).s;by_cases h2:0≤t∧t≤16777216
  case neg =>
   rw[av h2]at hW;rcases (by omega:t<0∨(¬t<0∧16777216<t)) with a | ⟨a,b⟩
   ·simp (disch:=omega) [-getElem?_pos,wrap64,FX,h0,h1,a]
    exact hW
   ·simp (disch:=omega) [-getElem?_pos,wrap64,FX,h0,h1,a,b]
    exact hW
  rw[aK h2]at hW;have a:¬ t<0:=by omega
  have b:¬ 16777216<t:=by omega
  by_cases h3:96<l.length
  ·rw[aK h3]at hW
   have iH:(96:Int)<l.length:=by omega
   simp (disch:=omega) [-getElem?_pos,wrap64,FX,h0,h1,a,b,iH];exact hW
  rw[av h3]at hW;have iH:¬ (96:Int)<l.length:=by omega
  simp (disch:=omega) [-getElem?_pos,wrap64,FX,h0,h1,a,b,iH];refine go_loop (fun i:Nat=>aoP (j0 l) l.length i c.row G) (fun i=>i≤l.length∧du (Ey c l) (l.length-i) i=W) (fun i=>l.length-i) 0 rfl (by simp) ⟨by omega,hW⟩ ?_
  rintro i ⟨hi,hq⟩;simp (disch:=omega) [-getElem?_pos,wrap64,abn];refine bB (fun h5=>?_) (fun h5=>?_)
  ·have h5:i<l.length:=by omega
   rw[jq h5]at hq;unfold Ey at hq;by_cases h6:(nth l i).length=c.s.length
   ·rw[aK h6]at hq
    have hc:=U5 (nth l i) (by omega) (fun n => !decide (0≤n∧n≤1073741824)) 108 G (fun n=>awX n G)
    rw[agB]at hc;by_cases h7:dF (nth l i) 1073741824
    ·rw[aK h7]at hq
     simp (disch:=omega) [-getElem?_pos,wrap64,aY (l:=l),h6,hc,h7];exact bu (i+1) (by simp) ⟨by omega,hq⟩ (by omega)
    ·rw[av h7]at hq
     simp (disch:=omega) [-getElem?_pos,wrap64,aY (l:=l),h6,hc,h7];exact hq
   ·rw[av h6]at hq
    have iI:¬ ((nth l i).length:Int)=c.s.length:=by omega
    simp (disch:=omega) [-getElem?_pos,wrap64,aY (l:=l),iI];exact hq
  ·obtain rfl:i=l.length:=by omega
   rw[lC]at hq;exact hq)
theorem ahI(c:Cs)(hr:im c.r)(p:Pn)(G:List aP):aX F 70 [cs c,pn p] G=some (i64 (oD c p),G) :=
 bL rfl rfl (by
  obtain⟨t,l⟩:=p;generalize hW:oD c ⟨t,l⟩=W;unfold oD at hW;simp only at hW;have h0:=GG c hr;by_cases h1:eQ c=0
  case neg =>
   rw[aK h1]at hW;simp (disch:=omega) [-getElem?_pos,wrap64,FY,h0,h1];exact hW
  rw[av (by omega)]at hW
  have hs:=(jM h1).s;by_cases h2:0≤t∧t≤16777216
  case neg =>
   rw[av h2]at hW;rcases (by omega:t<0∨(¬t<0∧16777216<t)) with a | ⟨a,b⟩
   ·simp (disch:=omega) [-getElem?_pos,wrap64,FY,h0,h1,a]
    exact hW
   ·simp (disch:=omega) [-getElem?_pos,wrap64,FY,h0,h1,a,b]
    exact hW
  rw[aK h2]at hW;have a:¬ t<0:=by omega
  have b:¬ 16777216<t:=by omega
  by_cases h3:96<l.length
  ·rw[aK h3]at hW
   have iH:(96:Int)<l.length:=by omega
   simp (disch:=omega) [-getElem?_pos,wrap64,FY,h0,h1,a,b,iH];exact hW
  rw[av h3]at hW;have iH:¬ (96:Int)<l.length:=by omega
  simp (disch:=omega) [-getElem?_pos,wrap64,FY,h0,h1,a,b,iH];refine go_loop (fun i:Nat=>aoW (j0 l) l.length i c.row G) (fun i=>i≤l.length∧du (Ey c l) (l.length-i) i=W) (fun i=>l.length-i) 0 rfl (by simp) ⟨by omega,hW⟩ ?_
  rintro i ⟨hi,hq⟩;simp (disch:=omega) [-getElem?_pos,wrap64,abt];refine bB (fun h5=>?_) (fun h5=>?_)
  ·have h5:i<l.length:=by omega
   rw[jq h5]at hq;unfold Ey at hq;by_cases h6:(nth l i).length=c.s.length
   ·rw[aK h6]at hq
    simp (disch:=omega) [-getElem?_pos,wrap64,aY (l:=l),h6];refine go_loop (fun j:Nat=>aoU (j0 l) l.length i (ints (nth l i)) (nth l i).length j c.row G) (fun j=>j≤(nth l i).length∧∀k,k<j→0≤nth (nth l i) k∧nth (nth l i) k≤1073741824) (fun j=>(nth l i).length-j) 0 rfl (by simp[h6]) ⟨by omega,by omega⟩ ?_
    rintro j ⟨hj,hk⟩;simp (disch:=omega) [-getElem?_pos,wrap64,abr];refine bB (fun h7=>?_) (fun h7=>?_)
    ·have h7:j<(nth l i).length:=by omega
     by_cases g:0≤nth (nth l i) j∧nth (nth l i) j≤1073741824
     ·simp (disch:=omega) [-getElem?_pos,wrap64,dA (l:=nth l i),show ¬ nth (nth l i) j<0 by omega,show ¬ 1073741824<nth (nth l i) j by omega]
      refine bu (j+1) (by simp) ⟨by omega,fun k oT=>?_⟩ (by omega)
      rcases (by omega:k<j∨k=j) with h|rfl
      ·exact hk k h
      ·exact g
     ·rw[av (fun q:dF (nth l i) 1073741824=>g (q j h7))]at hq
      rcases (by omega:nth (nth l i) j<0∨(¬nth (nth l i) j<0∧1073741824<nth (nth l i) j)) with a | ⟨a,b⟩
      ·simp (disch:=omega) [-getElem?_pos,wrap64,dA (l:=nth l i),a]
       exact hq
      ·simp (disch:=omega) [-getElem?_pos,wrap64,dA (l:=nth l i),a,b]
       exact hq
    ·obtain rfl:j=(nth l i).length:=by omega
     rw[aK (show dF (nth l i) 1073741824 from hk)]at hq;exact bu (i+1) (by simp) ⟨by omega,hq⟩ (by omega)
   ·rw[av h6]at hq
    have iI:¬ ((nth l i).length:Int)=c.s.length:=by omega
    simp (disch:=omega) [-getElem?_pos,wrap64,aY (l:=l),iI];exact hq
  ·obtain rfl:i=l.length:=by omega
   rw[lC]at hq;exact hq)
noncomputable def rH(c:Cs)(f:Fl)(p:Pn)(n:Nat):Int:=if oD c p≠0 then oD c p else if fP c f then (if p.f=f.t then (if n=p.l.length then 0 else 3) else 6) else 50
theorem awY(c:Cs)(hr:im c.r){f:Fl}(hf:kq f)(p:Pn)(l:List Sp)(G:List aP):aX F 117 [cs c,fl f,pn p,oC l] G=some (i64 (rH c f p l.length),G) :=
 bL rfl rfl (by
  have h0:=ahI c hr p;have h1:=Ka c hr f hf;unfold rH;by_cases a:oD c p=0
  case neg=>simp (disch:=omega) [-getElem?_pos,wrap64,F5,h0,a]
  have hc:eQ c=0:=by
   unfold oD at a;split at a
   ·rename_i h;exact absurd a h
   ·rename_i h;exact iu h
  by_cases b:fP c f
  case neg=>simp (disch:=omega) [-getElem?_pos,wrap64,F5,h0,a,h1,b]
  by_cases d:p.f=f.t
  case neg=>simp (disch:=omega) [-getElem?_pos,wrap64,F5,h0,a,h1,hc,b,d]
  obtain⟨t,pl⟩:=p;obtain rfl:t=f.t:=d;by_cases e:l.length=pl.length
  ·simp (disch:=omega) [-getElem?_pos,wrap64,F5,h0,a,h1,hc,b,e]
  ·have e':¬ (l.length:Int)=pl.length:=by omega
   simp (disch:=omega) [-getElem?_pos,wrap64,F5,h0,a,h1,hc,b,e,e'])
def nB(p:Pn)(l:List Sp):List Sp:=(List.range l.length).map fun i=>⟨(nth l i).a,(nth l i).b,nth p.l i⟩
theorem Kt{p:Pn}{l:List Sp}:(nB p l).length=l.length:=by simp[nB]
theorem ahJ{p:Pn}{l:List Sp}{i:Nat}(h:i<l.length):nth (nB p l) i=⟨(nth l i).a,(nth l i).b,nth p.l i⟩:=by
 simp[nth,nB,List.getD,h]
noncomputable def lY(c:Cs)(f:Fl)(p:Pn)(l:List Sp):Int:=if rH c f p l.length≠0 then rH c f p l.length else iJ c f (nB p l)
noncomputable def xQ(t:Option Nat)(c:Cs)(f:Fl)(p:Pn)(l:List Sp):V:=if rH c f p l.length=0 then jP t c f (nB p l) else VL t (rH c f p l.length)
structure Bg(c:Cs)(f:Fl)(p:Pn)(n:Nat):Prop where
 c0:eQ c=0
 f0:fP c f
 t:p.f=f.t
 len:n=p.l.length
 dC:n≤96
 e:∀i,i<n→(nth p.l i).length=c.s.length∧dF (nth p.l i) 1073741824
theorem V6{c:Cs}{f:Fl}{p:Pn}{n:Nat}(h:rH c f p n=0):Bg c f p n:=by
 unfold rH at h;split at h
 ·rename_i h1;exact absurd h h1
 ·rename_i h1
  have h1:=iu h1;unfold oD at h1;split at h1
  ·rename_i h2;exact absurd h1 h2
  ·rename_i h2
   split at h1
   ·split at h1
    ·cases h1
    ·split at h
     ·split at h
      ·split at h
       ·rename_i h3 h4 h5 h6
        refine⟨iu h2,h4,h5,h6,by omega,fun i hi=>?_⟩
        have h7:=sj h1 i (by omega) (by omega)
        unfold Ey at h7;split at h7
        ·split at h7
         ·exact⟨by assumption,by assumption⟩
         ·cases h7
        ·cases h7
       ·cases h
      ·cases h
     ·cases h
   ·cases h1
theorem Bg.rd{c:Cs}{f:Fl}{p:Pn}{n:Nat}(h:Bg c f p n):gq c f=0:=by
 unfold gq;rw[av (by have:=h.c0;omega),aK h.f0]
theorem Bg.cr{c:Cs}{f:Fl}{p:Pn}{l:List Sp}(h:Bg c f p l.length):iJ c f (nB p l)=du (fun k=>fS c (ew c f (nB p l) k) (nth (nB p l) k)) l.length 0:=by
 have:=h.dC;unfold iJ;rw[av (by have:=h.rd;omega),Kt,av (by omega)]
abbrev V7(c:Cs)(p:Pn)(g:V):V:=.agg [i64 c.r.n,nV c.r.l,ru c.s,i64 p.f,j0 p.l,g]
theorem awZ(f:Fl)(l:List Int)(G:List aP):aX F 109 [fl f,ints l] G=some (ints l,G) :=
 bL rfl rfl (by simp[wrap64,ab9])
theorem aw0(c:Cs)(hr:im c.r){f:Fl}(hf:kq f)(p:Pn)(q:FuncId)(cap:List V)(l:List Sp)(G:List aP):aX F 110 [V7 c p (.fn q cap),fl f,oC l] G=some (i64 (rH c f p l.length),G) :=
 bL rfl rfl (by
  have h0:=ahH c hr p;have h1:=agc c hr f hf;unfold rH;by_cases a:oD c p=0
  case neg=>simp (disch:=omega) [-getElem?_pos,wrap64,F4,h0,a]
  have hc:eQ c=0:=by
   unfold oD at a;split at a
   ·rename_i h;exact absurd a h
   ·rename_i h;exact iu h
  by_cases b:fP c f
  case neg=>simp (disch:=omega) [-getElem?_pos,wrap64,F4,h0,a,h1,b]
  by_cases d:p.f=f.t
  case neg=>simp (disch:=omega) [-getElem?_pos,wrap64,F4,h0,a,h1,hc,b,d]
  obtain⟨t,pl⟩:=p;obtain rfl:t=f.t:=d;by_cases e:l.length=pl.length
  ·simp (disch:=omega) [-getElem?_pos,wrap64,F4,h0,a,h1,hc,b,e]
  ·have e':¬ (l.length:Int)=pl.length:=by omega
   simp (disch:=omega) [-getElem?_pos,wrap64,F4,h0,a,h1,hc,b,e,e'])
set_option maxRecDepth 100000 in
set_option maxHeartbeats 1000000 in
theorem aw1{c:Cs}(hr:im c.r){f:Fl}(hf:kq f){p:Pn}{l:List Sp}(hb:Bg c f p l.length)(G:List aP) :
  aX F 111 [V7 c p (.fn 109 []),fl f,oC l] G=some (jP (some 0) c f (nB p l),G):=by
 suffices h:∀Q:V→List aP→Prop,Q (jP (some 0) c f (nB p l)) G→gw (aX F) 111 [V7 c p (.fn 109 []),fl f,oC l] G Q by
  obtain⟨_,G',h,rfl,rfl⟩:=h (fun v G'=>v=jP (some 0) c f (nB p l)∧G'=G) ⟨rfl,rfl⟩;exact h
 intro Q hQ;refine gF rfl rfl ?_;have z1:=hb.c0;have z2:=hb.f0;have cv:=jM z1;have kv:=kr cv.k;have hn:=hb.len;have hm:=hb.dC;obtain⟨G0,yq⟩:=ag0 hr hf [] (by simp)
 rw[jP,aK (by unfold iJ;rw[av (by have:=hb.rd;omega)];rfl)]at yq
 simp only[ew,uy,mn,List.range_zero,Bf]at yq;rw[show oC []=.slice none 3 [] from rfl]at yq;have e:=hb.cr;generalize hq:nB p l=q at e hQ;have oO:q.length=l.length:=by rw[←hq,Kt]
 simp (disch:=omega) [-getElem?_pos,wrap64,acb,yq];refine go_loop (fun k:Nat=>ap4 (oC l) (.slice (some 1070) 3 ((mn c f q k).map Ps.row)) (j0 p.l) p.l.length k [i64 c.r.n,nV c.r.l,ru c.s,i64 p.f,j0 p.l,.fn 109 []] (ew c f q k).row [z0,.bU,.bU] k G)
  (fun k=>k≤l.length∧du (fun k=>fS c (ew c f q k) (nth q k)) (l.length-k) k=iJ c f q∧∀j,j<k→fS c (ew c f q j) (nth q j)=0) (fun k=>l.length-k) 0 rfl (by simp[ew,mn]) ⟨by omega,e.symm,by omega⟩ ?_
 rintro k ⟨hk,hE,hj⟩;have y7:=GW z1 z2 k hj;simp (disch:=omega) [-getElem?_pos,wrap64,aca];refine bB (fun h5=>?_) (fun h5=>?_)
 ·have h5:k<l.length:=by omega
  rw[jq h5]at hE;have sD:nth q k=⟨(nth l k).a,(nth l k).b,nth p.l k⟩:=by rw[←hq,ahJ h5]
  obtain⟨t1,G1,hP⟩:=Of hr (Er cv.k y7) (nth q k);rw[ry,Ki z1 y7]at hP;have hs:=awZ (ew c f q k) (nth p.l k) G;rw[sD]at hP;by_cases h6:fS c (ew c f q k) (nth q k)=0
  ·rw[←sD,aK h6,sD]at hP
   simp only[aK h6]at hE;simp (disch:=omega) [-getElem?_pos,wrap64,aY (l:=l),aY (l:=p.l),hs,hP];refine bu (k+1) (by simp[Ot,ew,uk,sD]) ⟨by omega,hE,fun j iX=>?_⟩ (by omega)
   by_cases g:j=k
   ·rw[g];exact h6
   ·exact hj j (by omega)
  ·rw[←sD,av h6,sD]at hP
   simp only[av h6]at hE;rw[jP,av (by omega),← hE]at hQ
   rw[sD]at h6 hQ;simp (disch:=omega) [-getElem?_pos,wrap64,aY (l:=l),aY (l:=p.l),hs,hP,h6];exact hQ
 ·obtain rfl:k=l.length:=by omega
  rw[qd]at hE;have hE:0=iJ c f q:=hE;rw[jP,aK hE.symm,oO]at hQ;exact hQ
theorem aw2{c:Cs}(hr:im c.r){f:Fl}(hf:kq f)(p:Pn)(l:List Sp)(G:List aP):∃X,(lY c f p l=0→X=xQ (some 0) c f p l) ∧
  (lY c f p l≠0→∃t u,X=.tuple [.agg [i64 0,.slice t 4 [],.slice t 1 []],.slice u 3 [],i64 (lY c f p l)])∧aX F 66 [cs c,fl f,pn p,oC l] G=some (X,G):=by
 have h0:=aw0 c hr hf p 109 [] l;unfold xQ lY;by_cases hz:rH c f p l.length=0
 ·have h1:=aw1 hr hf (V6 hz)
  simp only[aK hz,av (show ¬ rH c f p l.length≠0 from fun g=>g hz)];by_cases hy:iJ c f (nB p l)=0
  ·refine⟨_,fun _=>rfl,fun h=>absurd hy h,?_⟩
   simp only[jP,aK hy]at h1 ⊢;exact bL rfl rfl (by simp[wrap64,MO,h0,hz,h1])
  ·refine⟨_,fun h=>absurd h hy,fun _=>⟨none,some 0,rfl⟩,?_⟩
   simp only[jP,av hy]at h1 ⊢;exact bL rfl rfl (by simp[wrap64,MO,h0,hz,h1])
 ·simp only[av hz,aK (show rH c f p l.length≠0 from hz)]
  exact⟨_,fun _=>rfl,fun _=>⟨some 0,some 0,rfl⟩,bL rfl rfl (by simp[wrap64,MO,h0,hz])⟩
set_option maxRecDepth 100000 in
set_option maxHeartbeats 1000000 in
theorem aw3{c:Cs}(hr:im c.r){f:Fl}(hf:kq f)(p:Pn)(l:List Sp)(hp:∀i,i<l.length→(nth l i).a.length≤1000∧(nth l i).b.length≤1000) :
  ∃G',aX F 71 [cs c,fl f,pn p,oC l] []=some (xQ (some 0) c f p l,G'):=by
 suffices h:∀Q:V→Prop,Q (xQ (some 0) c f p l)→gw (aX F) 71 [cs c,fl f,pn p,oC l] [] fun v _=>Q v by
  obtain⟨_,G',h,rfl⟩:=h (fun v=>v=xQ (some 0) c f p l) rfl;exact⟨G',h⟩
 intro Q hQ;refine gF rfl rfl ?_;have h0:=awY c hr hf p l;unfold xQ at hQ;by_cases hz:rH c f p l.length=0
 case neg =>
  rw[av hz]at hQ;simp (disch:=omega) [-getElem?_pos,wrap64,SW,h0,hz];exact hQ
 rw[aK hz]at hQ;have hb:=V6 hz;have z1:=hb.c0;have z2:=hb.f0;have cv:=jM z1;have kv:=kr cv.k;have hn:=hb.len;have hm:=hb.dC;have GI:=cv.s;have fY:=N7 f (AX z1 z2.2.1) (GP cv.k z2.2.2);have e:=hb.cr;generalize hq:nB p l=q at e hQ;have oO:q.length=l.length:=by rw[←hq,Kt]
 simp (disch:=omega) [-getElem?_pos,wrap64,SW,h0,hz,fY];refine go_loop (fun k:Nat=>aoY (.slice (some 1061) 3 ((mn c f q k).map Ps.row)) (oC l) l.length k c.row (ew c f q k).row p.row [z0,.bU,.bU] k [.cells [],.cells []])
  (fun k=>k≤l.length∧du (fun k=>fS c (ew c f q k) (nth q k)) (l.length-k) k=iJ c f q∧∀j,j<k→fS c (ew c f q j) (nth q j)=0) (fun k=>l.length-k) 0 rfl (by simp (disch:=omega) [p9,sA,ew,mn]) ⟨by omega,e.symm,by omega⟩ ?_
 rintro k ⟨hk,hE,hj⟩;have y7:=GW z1 z2 k hj;simp (disch:=omega) [-getElem?_pos,wrap64,abu];refine bB (fun h5=>?_) (fun h5=>?_)
 ·have h5:k<l.length:=by omega
  rw[jq h5]at hE;have sD:nth q k=⟨(nth l k).a,(nth l k).b,nth p.l k⟩:=by rw[←hq,ahJ h5]
  obtain⟨G1,hP⟩:=Oj (p:=nth q k) hr (Er cv.k y7) (by rw[sD];have:=hp k h5;have:=(hb.e k h5).1;simp only;omega)
  rw[ry,Ki z1 y7]at hP;rw[sD]at hP;by_cases h6:fS c (ew c f q k) (nth q k)=0
  ·rw[←sD,aK h6,sD]at hP
   simp only[aK h6]at hE;simp (disch:=omega) [-getElem?_pos,wrap64,aY (l:=l),aY (l:=p.l),hP];refine bu (k+1) (by simp[Ot,ew,uk,sD]) ⟨by omega,hE,fun j iX=>?_⟩ (by omega)
   by_cases g:j=k
   ·rw[g];exact h6
   ·exact hj j (by omega)
  ·rw[←sD,av h6,sD]at hP
   simp only[av h6]at hE;rw[jP,av (by omega),← hE]at hQ
   rw[sD]at h6 hQ;simp (disch:=omega) [-getElem?_pos,wrap64,aY (l:=l),aY (l:=p.l),hP,h6];exact hQ
 ·obtain rfl:k=l.length:=by omega
  rw[qd]at hE;have hE:0=iJ c f q:=hE;rw[jP,aK hE.symm,oO]at hQ;exact hQ
end Go.Proofs.YtcelmhaoipbdiaaGreat
namespace Go.Proofs.YtcelmhaoipbdiaaGreat
set_option linter.all false
open Go.Vm
end Go.Proofs.YtcelmhaoipbdiaaGreat
namespace Go.Proofs.YtcelmhaoipbdiaaGreat
set_option linter.all false
open Go.Vm
attribute [local simp] ly lz kF lx
abbrev V8(l:List (List Int)):V:=.slice (some 0) 1 (l.map fun p=>[ints p])
theorem ahL{l:List Int}{k:Nat}(hd:c5 l k){c:Cs}(hn:1≤c.r.n∧c.r.n≤40)(hs:c.s.length≤10)(t:Int){n:Nat}(hm:n≤1000) :
  ∃p k',aX F 27 [.bH 0 0,cs c,i64 t,i64 n] [dk l k]=some (.agg [i64 t,V8 p],[dk l k'])∧c5 l k'∧p.length=n:=by
 suffices h:∀Q:V→List aP→Prop,(∀p k',c5 l k'→p.length=n→Q (.agg [i64 t,V8 p]) [dk l k'])→gw (aX F) 27 [.bH 0 0,cs c,i64 t,i64 n] [dk l k] Q by
  obtain⟨_,_,h,q,k',rfl,rfl,h1⟩:=h (fun v G=>∃p k',v=.agg [i64 t,V8 p]∧G=[dk l k']∧c5 l k'∧p.length=n) fun p k' a b=>⟨p,k',rfl,rfl,a,b⟩;exact⟨q,k',h,h1⟩
 intro Q hQ;refine gF rfl rfl ?_;simp (disch:=omega) [wrap64,aaI];refine go_loop (fun y:List (List Int)×Nat=>anM (.bH 0 0) n y.1.length c.row [z0,.bU] [i64 t,.slice (some 1022) 1 (y.1.map fun p=>[ints p])] y.1.length [dk l y.2]) (fun y=>y.1.length≤n∧c5 l y.2) (fun y=>n-y.1.length) ([],k) rfl (by simp) ⟨by simp,hd⟩ ?_
 rintro⟨p,k⟩ ⟨h1,hd⟩;simp only at h1 hd;simp (disch:=omega) [wrap64,aaH];refine bB (fun h5=>?_) (fun h5=>?_)
 ·obtain⟨q,k2,n2,fp,hp⟩:=VD hd (c:=c) hn hs
  simp (disch:=omega) [wrap64,n2];exact bu (p++[q.c],k2) (by simp) ⟨by simp;omega,fp⟩ (by simp;omega)
 ·obtain e:p.length=n:=by omega
  exact hQ p k hd e
theorem ahM{t:Option Nat}{c:Cs}{f:Fl}{p:Pn}{l:List Sp}(h:lY c f p l=0) :
  xQ t c f p l=.tuple [fl (ew c f (nB p l) l.length),.slice t 3 ((mn c f (nB p l) l.length).map Ps.row),i64 0]:=by
 unfold lY at h;split at h
 ·rename_i h1;exact absurd h h1
 ·rename_i h1
  unfold xQ jP;rw[aK (iu h1),aK h,Kt]
theorem aw4{t:Option Nat}{c:Cs}{f:Fl}{p:Pn}{l:List Sp}(h:lY c f p l≠0):xQ t c f p l=VL t (lY c f p l):=by
 by_cases h1:rH c f p l.length=0
 ·have e:lY c f p l=iJ c f (nB p l):=by unfold lY;rw[av (fun g=>g h1)]
  rw[e]at h ⊢;unfold xQ jP;rw[aK h1,av h]
 ·unfold xQ lY
  rw[av h1,aK h1]
noncomputable def jz(c:Cs)(f:Fl)(p:Pn)(l:List Sp):List Ps:=mn c f (nB p l) l.length
structure Wd where
 w:Int
 s:List Sp
abbrev Wd.row(x:Wd):List V:=[i64 x.w,oC x.s]
abbrev iK(l:List Wd):V:=.slice none 2 (l.map Wd.row)
instance:Inhabited Wd:=⟨⟨0,[]⟩⟩
def G6(x:Wd)(n:Int):Int:=if 1≤x.w∧x.w≤10000 then (if (x.s.length:Int)=n then 0 else 3) else 1
def sE(l:List Wd)(n:Int):Int:=if l.length=0 then 9 else if 50<l.length then 10 else du (fun i=>G6 (nth l i) n) l.length 0
theorem V9(c:Cs)(l:List Wd)(n:Int)(G:List aP):aX F 28 [cs c,iK l,i64 n] G=some (i64 (sE l n),G) :=
 bL rfl rfl (by
  generalize hW:sE l n=W;unfold sE at hW;by_cases h1:l.length=0
  ·rw[aK h1]at hW
   simp +contextual (disch:=omega) [-getElem?_pos,-List.length_eq_zero_iff,-Int.natCast_eq_zero,wrap64,MF,h1];exact hW
  rw[av h1]at hW;have ed:¬ (l.length:Int)=0:=by omega
  by_cases h2:50<l.length
  ·rw[aK h2]at hW
   have iz:(50:Int)<l.length:=by omega
   simp +contextual (disch:=omega) [-getElem?_pos,-List.length_eq_zero_iff,-Int.natCast_eq_zero,wrap64,MF,ed,iz];exact hW
  rw[av h2]at hW;have iz:¬ (50:Int)<l.length:=by omega
  simp +contextual (disch:=omega) [-getElem?_pos,-List.length_eq_zero_iff,-Int.natCast_eq_zero,wrap64,MF,ed,iz];refine go_loop (fun i:Nat=>anO n (iK l) l.length i G) (fun i=>i≤l.length∧du (fun i=>G6 (nth l i) n) (l.length-i) i=W) (fun i=>l.length-i) 0 rfl (by simp) ⟨by omega,hW⟩ ?_
  rintro i ⟨hi,hq⟩;simp +contextual (disch:=omega) [-getElem?_pos,-List.length_eq_zero_iff,-Int.natCast_eq_zero,wrap64,aaJ];refine bB (fun h3=>?_) (fun h3=>?_)
  ·have h3:i<l.length:=by omega
   rw[jq h3]at hq;unfold G6 at hq;by_cases h4:1≤(nth l i).w∧(nth l i).w≤10000
   ·rw[aK h4]at hq
    have a:¬ (nth l i).w<1:=by omega
    have b:¬ 10000<(nth l i).w:=by omega
    by_cases h5:((nth l i).s.length:Int)=n
    ·rw[aK h5,aK rfl]at hq
     simp +contextual (disch:=omega) [-getElem?_pos,-List.length_eq_zero_iff,-Int.natCast_eq_zero,wrap64,aY (l:=l),a,b,h5];exact bu (i+1) (by simp) ⟨by omega,hq⟩ (by omega)
    ·rw[av h5,av (by omega)]at hq
     simp +contextual (disch:=omega) [-getElem?_pos,-List.length_eq_zero_iff,-Int.natCast_eq_zero,wrap64,aY (l:=l),a,b,h5];exact hq
   ·rw[av h4,av (by omega)]at hq
    rcases (by omega:(nth l i).w<1∨(¬(nth l i).w<1∧10000<(nth l i).w)) with a | ⟨a,b⟩
    ·simp +contextual (disch:=omega) [-getElem?_pos,-List.length_eq_zero_iff,-Int.natCast_eq_zero,wrap64,aY (l:=l),a]
     exact hq
    ·simp +contextual (disch:=omega) [-getElem?_pos,-List.length_eq_zero_iff,-Int.natCast_eq_zero,wrap64,aY (l:=l),a,b]
     exact hq
  ·obtain rfl:i=l.length:=by omega
   rw[lC]at hq;exact hq)
theorem ahN(c:Cs)(l:List Wd)(n:Int)(G:List aP):aX F 29 [cs c,iK l,i64 n] G=some (i64 (sE l n),G) :=
 bL rfl rfl (by
  generalize hW:sE l n=W;unfold sE at hW;by_cases h1:l.length=0
  ·rw[aK h1]at hW
   simp +contextual (disch:=omega) [-getElem?_pos,-List.length_eq_zero_iff,-Int.natCast_eq_zero,wrap64,MG,h1];exact hW
  rw[av h1]at hW;have ed:¬ (l.length:Int)=0:=by omega
  by_cases h2:50<l.length
  ·rw[aK h2]at hW
   have iz:(50:Int)<l.length:=by omega
   simp +contextual (disch:=omega) [-getElem?_pos,-List.length_eq_zero_iff,-Int.natCast_eq_zero,wrap64,MG,ed,iz];exact hW
  rw[av h2]at hW;have iz:¬ (50:Int)<l.length:=by omega
  simp +contextual (disch:=omega) [-getElem?_pos,-List.length_eq_zero_iff,-Int.natCast_eq_zero,wrap64,MG,ed,iz];refine go_loop (fun i:Nat=>anQ n (iK l) l.length i G) (fun i=>i≤l.length∧du (fun i=>G6 (nth l i) n) (l.length-i) i=W) (fun i=>l.length-i) 0 rfl (by simp) ⟨by omega,hW⟩ ?_
  rintro i ⟨hi,hq⟩;simp +contextual (disch:=omega) [-getElem?_pos,-List.length_eq_zero_iff,-Int.natCast_eq_zero,wrap64,aaK];refine bB (fun h3=>?_) (fun h3=>?_)
  ·have h3:i<l.length:=by omega
   rw[jq h3]at hq;unfold G6 at hq;by_cases h4:1≤(nth l i).w∧(nth l i).w≤10000
   ·rw[aK h4]at hq
    have a:¬ (nth l i).w<1:=by omega
    have b:¬ 10000<(nth l i).w:=by omega
    by_cases h5:((nth l i).s.length:Int)=n
    ·rw[aK h5,aK rfl]at hq
     simp +contextual (disch:=omega) [-getElem?_pos,-List.length_eq_zero_iff,-Int.natCast_eq_zero,wrap64,aY (l:=l),a,b,h5];exact bu (i+1) (by simp) ⟨by omega,hq⟩ (by omega)
    ·rw[av h5,av (by omega)]at hq
     simp +contextual (disch:=omega) [-getElem?_pos,-List.length_eq_zero_iff,-Int.natCast_eq_zero,wrap64,aY (l:=l),a,b,h5];exact hq
   ·rw[av h4,av (by omega)]at hq
    rcases (by omega:(nth l i).w<1∨(¬(nth l i).w<1∧10000<(nth l i).w)) with a | ⟨a,b⟩
    ·simp +contextual (disch:=omega) [-getElem?_pos,-List.length_eq_zero_iff,-Int.natCast_eq_zero,wrap64,aY (l:=l),a]
     exact hq
    ·simp +contextual (disch:=omega) [-getElem?_pos,-List.length_eq_zero_iff,-Int.natCast_eq_zero,wrap64,aY (l:=l),a,b]
     exact hq
  ·obtain rfl:i=l.length:=by omega
   rw[lC]at hq;exact hq)
theorem OK{l:List Wd}{n:Int}(h:sE l n=0):(0<l.length∧l.length≤50)∧∀i,i<l.length→(1≤(nth l i).w∧(nth l i).w≤10000)∧((nth l i).s.length:Int)=n:=by
 unfold sE at h;split at h
 ·cases h
 ·split at h
  ·cases h
  ·refine⟨by omega,fun i hi=>?_⟩
   have:=sj h i (by omega) (by omega)
   unfold G6 at this;split at this
   ·split at this
    ·exact⟨by assumption,by assumption⟩
    ·cases this
   ·cases this
def zD(r:Rs)(l:Int):Int:=if nq r l=0 then iR r.c l else 0
theorem ahO(r:Rs)(l:Int)(G:List aP):aX F 156 [.agg r.cells,i64 0,i64 l] G=some (i64 (nq r l),G) :=
 bL rfl rfl (by
  by_cases h:iS r=0
  ·by_cases h1:0≤l
   ·by_cases h2:l≤16777216
    ·simp +contextual (disch:=omega) [-getElem?_pos,-List.length_eq_zero_iff,-Int.natCast_eq_zero,wrap64,Jm,Gb,h,dM,h1,h2,nq]
    ·simp +contextual (disch:=omega) [-getElem?_pos,-List.length_eq_zero_iff,-Int.natCast_eq_zero,wrap64,Jm,Gb,h,dM,h1,h2,nq]
   ·simp +contextual (disch:=omega) [-getElem?_pos,-List.length_eq_zero_iff,-Int.natCast_eq_zero,wrap64,Jm,Gb,h,dM,h1,nq]
  ·simp +contextual (disch:=omega) [-getElem?_pos,-List.length_eq_zero_iff,-Int.natCast_eq_zero,wrap64,Jm,Gb,h,nq])
theorem aw5(r:Rs)(l:Int)(G:List aP):aX F 118 [.agg r.cells,i64 l] G=some (.tuple [i64 (zD r l),i64 (nq r l)],G) :=
 bL rfl rfl (by
  by_cases h:nq r l=0
  ·simp +contextual (disch:=omega) [-getElem?_pos,-List.length_eq_zero_iff,-Int.natCast_eq_zero,wrap64,Ti,ahO,h,Jy (m6 (tj (aey h))),zD]
  ·simp +contextual (disch:=omega) [-getElem?_pos,-List.length_eq_zero_iff,-Int.natCast_eq_zero,wrap64,Ti,ahO,h,zD])
theorem aw6(r:Rs)(l:Int)(G:List aP):aX F 97 [.agg r.cells,i64 l] G=some (.tuple [i64 (zD r l),i64 (nq r l)],G):=Jz r l G
theorem aw7(l:List Int)(hl:l.length≤17592186044416)(G:List aP):aX F 74 [ints l,ints l] G=some (.bool true,G) :=
 bL rfl rfl (by
  simp +contextual (disch:=omega) [-getElem?_pos,-List.length_eq_zero_iff,-Int.natCast_eq_zero,wrap64,abA];refine go_loop (fun k:Nat=>ao9 (ints l) (ints l) l.length k G) (fun k=>k≤l.length) (fun k=>l.length-k) 0 rfl (by simp) (by omega) ?_
  intro k hk;simp +contextual (disch:=omega) [-getElem?_pos,-List.length_eq_zero_iff,-Int.natCast_eq_zero,wrap64,abz];refine bB (fun h=>?_) (fun h=>?_)
  ·have h:k<l.length:=by omega
   simp +contextual (disch:=omega) [-getElem?_pos,-List.length_eq_zero_iff,-Int.natCast_eq_zero,wrap64,dA (l:=l)];exact bu (k+1) (by simp) (by omega) (by omega)
  ·trivial)
structure Ws where
 v:List Int
 h:List Int
 o:Int
 p:Int
 t:Int
abbrev Ws.Wa(x:Ws)(t:Option Nat):List V:=[.slice t 1 (x.h.map fun n=>[i64 n]),i64 x.o,i64 x.p,i64 x.t]
abbrev Ws.row(x:Ws):List V:=x.Wa none
instance:Inhabited Ws:=⟨⟨[],[],0,0,0⟩⟩
def OL(r:Dr)(v:Int):Int:=IntKind.i64.wrap (v+IntKind.i64.wrap (IntKind.i64.wrap (IntKind.i64.wrap (IntKind.i64.wrap (r.inf-r.los)-r.tur)-r.spi)-r.ovr))
def rI(i:Nat)(r:Dr)(w:Ws):Ws :=
 ⟨w.v.set i (OL r (nth w.v i)),w.h.set i (max (nth w.h i) (OL r (nth w.v i))),IntKind.i64.wrap (w.o+r.ovr),IntKind.i64.wrap (w.p+r.pow),IntKind.i64.wrap (w.t+r.jL)⟩
def nC:Nat→List Dr→Ws→Ws
 |_,[],w=>w
 |i,r::rs,w=>nC (i+1) rs (rI i r w)
def qy:List Ps→Ws→Ws
 |[],w=>w
 |x::l,w=>qy l (nC 0 x.re w)
def uo(f:Fl):Ws:=⟨f.d.map Ds.v,f.d.map Ds.v,0,0,0⟩
def vk(f:Fl)(l:List Ps):Ws:=qy l (uo f)
theorem ahP{l:List Dr}{i:Nat}{w:Ws}(h:i<l.length):nC i (l.drop i) w=nC (i+1) (l.drop (i+1)) (rI i (nth l i) w):=by
 rw[m7 h];rfl
theorem ahQ{l:List Ps}{i:Nat}{w:Ws}(h:i<l.length):qy (l.drop i) w=qy (l.drop (i+1)) (nC 0 (nth l i).re w):=by
 rw[m7 h];rfl
theorem ahR:∀{l:List Dr} {i:Nat} {w:Ws},(nC i l w).v.length=w.v.length∧(nC i l w).h.length=w.h.length
 |[],_,_=>⟨rfl,rfl⟩
 |r::l,i,w=>by
  have:=ahR (l:=l) (i:=i+1) (w:=rI i r w);simpa [nC,rI] using this
theorem ahS:∀{l:List Ps} {w:Ws},(qy l w).v.length=w.v.length∧(qy l w).h.length=w.h.length
 |[],_=>⟨rfl,rfl⟩
 |x::l,w=>by
  have h1:=ahR (l:=x.re) (i:=0) (w:=w);have h2:=ahS (l:=l) (w:=nC 0 x.re w);exact⟨h2.1.trans h1.1,h2.2.trans h1.2⟩
theorem aw8(n:Int)(s:Ds)(G:List aP):aX F 116 [i64 n,dst s] G=some (i64 s.v,G) :=
 bL rfl rfl (by simp +contextual (disch:=omega) [-getElem?_pos,-List.length_eq_zero_iff,-Int.natCast_eq_zero,wrap64,acj])
theorem ahT(l:List Ds)(hl:l.length≤1000)(G:List aP):aX F 115 [ox l,.fn 116 []] G=some (own (l.map Ds.v),G) :=
 bL rfl rfl (by
  simp +contextual (disch:=omega) [-getElem?_pos,-List.length_eq_zero_iff,-Int.natCast_eq_zero,wrap64,aci];refine go_loop (fun i:Nat=>ap9 (.fn 116 []) (.slice (some 1021) 1 ((l.take i).map fun s=>[i64 s.v])) (ox l) l.length i i G) (fun i=>i≤l.length) (fun i=>l.length-i) 0 rfl (by simp) (by omega) ?_
  intro i hi;simp +contextual (disch:=omega) [-getElem?_pos,-List.length_eq_zero_iff,-Int.natCast_eq_zero,wrap64,ach];refine bB (fun h=>?_) (fun h=>?_)
  ·have h:i<l.length:=by omega
   simp +contextual (disch:=omega) [-getElem?_pos,-List.length_eq_zero_iff,-Int.natCast_eq_zero,wrap64,aY (l:=l),aw8];exact bu (i+1) (by simp[jr (l:=l.map fun s=>[i64 s.v]) (i:=i) (by simpa using h),ua h]) (by omega) (by omega)
  ·obtain rfl:i=l.length:=by omega
   rw[lZ (by simp)]
   simp)
theorem aw9{id t:Nat}{l:List Int}(hl:l≠[]):kC id 0 (.slice (some t) 1 (l.map fun n=>[V.int .i64 n]))=some (.bR id 1 l.length,some (cP l)):=agC hl
theorem axa{id t n:Nat}:kC id 0 (.slice (some t) n [])=some (.ea n,none):=rfl
theorem axb{l:List Int}{j:Nat}{x:Int}(h:j<l.length):(cP (l.set j x))[j]?=some (.int .i64 x):=by
 rw[lA (by simpa using h),ui h,aK rfl]
theorem OM:∀{l:List Ps} {w:Ws},(∀i,i<l.length→(nth l i).re=[])→qy l w=w
 |[],_,_=>rfl
 |x::l,w,h=>by
  have h0:x.re=[]:=h 0 (by simp)
  have:=OM (l:=l) (w:=w) fun i hi=>h (i+1) (by simp;omega)
  simpa [qy,h0,nC] using this
theorem axc{f:Fl}{l:List Ps}(hd:f.d.length≤1000)(hl:l.length≤1000)(hr:∀i,i<l.length→(nth l i).re.length≤f.d.length)(G:List aP) :
  ∃t,aX F 69 [fl f,Cy l] G=some (.agg ((vk f l).Wa t),G):=by
 by_cases hz:f.d=[]
 ·refine⟨some 0,bL rfl rfl ?_⟩
  have tw:∀i,i<l.length→(nth l i).re=[]:=fun i hi=>by
   have:=hr i hi;rw[hz]at this;exact a8.1 (by simpa using this)
  have hW:vk f l=⟨[],[],0,0,0⟩:=by
   unfold vk;rw[OM tw,uo,hz];rfl
  rw[hW];have hm:=ahT f.d hd [];have hc:=N6 [] (by simp) []
  simp only[hz,ox,ints,own,Bf]at hm hc;simp +contextual (disch:=omega) [-getElem?_pos,-List.length_eq_zero_iff,-Int.natCast_eq_zero,wrap64,SS,hz,hm,axa,hc];refine go_loop (fun i:Nat=>⟨[(4,.bj 4 0),(5,.ea 1),(6,.bj 6 0),(17,Cy l),(18,i64 l.length),(19,i64 i)],[(4,[.bU,z0,z0,z0]),(6,[.ea 1,z0,z0,z0])],[],G⟩) (fun i=>i≤l.length) (fun i=>l.length-i) 0 rfl (by simp) (by omega) ?_
  intro i hi;simp +contextual (disch:=omega) [-getElem?_pos,-List.length_eq_zero_iff,-Int.natCast_eq_zero,wrap64,SR];refine bB (fun h=>?_) (fun h=>?_)
  ·have h:i<l.length:=by omega
   have h0:=tw i h;simp +contextual (disch:=omega) [-getElem?_pos,-List.length_eq_zero_iff,-Int.natCast_eq_zero,wrap64,aY (l:=l),h0];rw[abq,yJ];simp +contextual (disch:=omega) [-getElem?_pos,-List.length_eq_zero_iff,-Int.natCast_eq_zero,wrap64,SO];exact bu (i+1) (by simp) (by omega) (by omega)
  ·simp
 ·refine⟨none,bL rfl rfl ?_⟩
  generalize hW:vk f l=W;unfold vk uo at hW;have hm:=ahT f.d hd [];have cq:f.d.map Ds.v≠[]:=by simpa using hz
  have gX:0<f.d.length:=by cases e:f.d with|nil=>exact absurd e hz|cons=>simp
  obtain⟨v0,IL⟩:∃v0,f.d.map Ds.v=v0:=⟨_,rfl⟩;have Ff:v0.length=f.d.length:=by rw[←IL];simp
  rw[IL]at hW hm cq;have hc:=N6 v0 (by omega) []
  simp +contextual (disch:=omega) [-getElem?_pos,-List.length_eq_zero_iff,-Int.natCast_eq_zero,wrap64,SS,hm,aw9 cq,hc,Ff,gX];refine go_loop (fun x:Nat×Ws=>aoS f.d.length (Cy l) l.length x.1 [.bU,z0,z0,z0] [.bR 20015 1 f.d.length,i64 x.2.o,i64 x.2.p,i64 x.2.t] (cP x.2.v) (cP x.2.h) G)
   (fun x=>x.1≤l.length∧qy (l.drop x.1) x.2=W∧x.2.v.length=f.d.length∧x.2.h.length=f.d.length) (fun x=>l.length-x.1) (0,⟨v0,v0,0,0,0⟩) rfl (by simp[Ff]) ⟨by omega,by simpa using hW,Ff,Ff⟩ ?_
  rintro⟨i,w⟩ ⟨hi,hq,hv,hh⟩;simp only at hi hq hv hh;simp +contextual (disch:=omega) [-getElem?_pos,-List.length_eq_zero_iff,-Int.natCast_eq_zero,wrap64,SR];refine bB (fun h=>?_) (fun h=>?_)
  ·have h:i<l.length:=by omega
   have hb:=hr i h;rw[ahQ h]at hq;simp +contextual (disch:=omega) [-getElem?_pos,-List.length_eq_zero_iff,-Int.natCast_eq_zero,wrap64,aY (l:=l)];refine go_loop (fun x:Nat×Ws=>aoQ f.d.length (Cy l) l.length i (rcs (nth l i).re) (nth l i).re.length x.1 [.bU,z0,z0,z0] [.bR 20015 1 f.d.length,i64 x.2.o,i64 x.2.p,i64 x.2.t] (cP x.2.v) (cP x.2.h) G)
    (fun x=>x.1≤(nth l i).re.length∧nC x.1 ((nth l i).re.drop x.1) x.2=nC 0 (nth l i).re w∧x.2.v.length=f.d.length∧x.2.h.length=f.d.length) (fun x=>(nth l i).re.length-x.1) (0,w) rfl (by simp) ⟨by omega,by simp,hv,hh⟩ ?_
   rintro⟨j,u⟩ ⟨hj,lh,Ep,hh2⟩;simp only at hj lh Ep hh2;simp +contextual (disch:=omega) [-getElem?_pos,-List.length_eq_zero_iff,-Int.natCast_eq_zero,wrap64,SO];refine bB (fun h2=>?_) (fun h2=>?_)
   ·have h2:j<(nth l i).re.length:=by omega
    rw[ahP h2]at lh;have r7:j<u.v.length:=by omega
    have hjh:j<u.h.length:=by omega
    simp +contextual (disch:=omega) [-getElem?_pos,-List.length_eq_zero_iff,-Int.natCast_eq_zero,wrap64,aY (l:=(nth l i).re),axb,lA];exact bu (j+1,rI j (nth (nth l i).re j) u) (by simp[rI,OL]) ⟨by omega,lh,by simp[rI];omega,by simp[rI];omega⟩ (by simp;omega)
   ·obtain rfl:j=(nth l i).re.length:=by omega
    simp only[rJ,nC]at lh;rw[←lh]at hq;exact bu (i+1,u) (by simp) ⟨by omega,hq,Ep,hh2⟩ (by simp;omega)
  ·obtain rfl:i=l.length:=by omega
   simp only[rJ,qy]at hq;subst hq;simp[hh]
theorem axd(l:List Dr)(hl:l.length≤1000)(p:Dr→Bool)(f:FuncId)(G:List aP)(h:∀i,i<l.length→aX F f [.agg (nth l i).row] G=some (.bool (p (nth l i)),G)) :
  ∃k:Int,(decide (0≤k)=l.any p)∧aX F 155 [.slice none 7 (l.map Dr.row),.fn f []] G=some (i64 k,G):=by
 suffices hh:∀Q:V→List aP→Prop,(∀k:Int,decide (0≤k)=l.any p→Q (i64 k) G)→gw (aX F) 155 [.slice none 7 (l.map Dr.row),.fn f []] G Q by
  obtain⟨_,G',h,k,h1,rfl,rfl⟩:=hh (fun v G'=>∃k:Int,decide (0≤k)=l.any p∧v=i64 k∧G'=G) fun k hk=>⟨k,hk,rfl,rfl⟩;exact⟨k,h1,h⟩
 intro Q hQ;refine gF rfl rfl ?_;simp (disch:=omega) [-getElem?_pos,wrap64,ac2];refine go_loop (fun i:Nat=>aq0 (.slice none 7 (l.map Dr.row)) (.fn f []) l.length i G) (fun i=>i≤l.length∧∀x∈l.take i,p x=false) (fun i=>l.length-i) 0 rfl (by simp) ⟨by omega,by simp⟩ ?_
 rintro i ⟨hi,hp⟩;simp (disch:=omega) [-getElem?_pos,wrap64,ac1];refine bB (fun h5=>?_) (fun h5=>?_)
 ·have h5:i<l.length:=by omega
  have hf:=h i h5;simp only[Dr.row]at hf;simp (disch:=omega) [-getElem?_pos,wrap64,aY (l:=l),hf];refine ic (fun h6=>?_) (fun h6=>?_)
  ·refine hQ _ ?_
   rw[dD (by omega)]
   exact(Be.2 ⟨_,oo h5,h6⟩).symm
  ·refine bu (i+1) (by simp) ⟨by omega,?_⟩ (by omega)
   intro x hx;rw[jr h5]at hx;rcases mS.1 hx with hx|hx
   ·exact hp x hx
   ·rw[pq.1 hx];exact h6
 ·obtain rfl:i=l.length:=by omega
  refine hQ _ ?_;rw[pt]at hp;rw[show l.any p=false from mR.2 fun x hx=>by rw[hp x hx];simp]
  rfl
theorem axe(l:List Dr)(hl:l.length≤1000)(p:Dr→Bool)(f:FuncId)(G:List aP)(h:∀i,i<l.length→aX F f [.agg (nth l i).row] G=some (.bool (p (nth l i)),G)) :
  aX F 113 [.slice none 7 (l.map Dr.row),.fn f []] G=some (.bool (l.any p),G) :=
 bL rfl rfl (by
  obtain⟨k,h1,h2⟩:=axd l hl p f G h;simp[wrap64,acf,h2];exact h1)
theorem axf(l:List Ps)(hl:l.length≤1000)(p:Ps→Bool)(f:FuncId)(G:List aP)(h:∀i,i<l.length→aX F f [.agg (nth l i).row] G=some (.bool (p (nth l i)),G)) :
  ∃k:Int,(decide (0≤k)=l.any p)∧aX F 112 [.slice none 3 (l.map Ps.row),.fn f []] G=some (i64 k,G):=by
 suffices hh:∀Q:V→List aP→Prop,(∀k:Int,decide (0≤k)=l.any p→Q (i64 k) G)→gw (aX F) 112 [.slice none 3 (l.map Ps.row),.fn f []] G Q by
  obtain⟨_,G',h,k,h1,rfl,rfl⟩:=hh (fun v G'=>∃k:Int,decide (0≤k)=l.any p∧v=i64 k∧G'=G) fun k hk=>⟨k,hk,rfl,rfl⟩;exact⟨k,h1,h⟩
 intro Q hQ;refine gF rfl rfl ?_;simp (disch:=omega) [-getElem?_pos,wrap64,ace];refine go_loop (fun i:Nat=>ap7 (.slice none 3 (l.map Ps.row)) (.fn f []) l.length i G) (fun i=>i≤l.length∧∀x∈l.take i,p x=false) (fun i=>l.length-i) 0 rfl (by simp) ⟨by omega,by simp⟩ ?_
 rintro i ⟨hi,hp⟩;simp (disch:=omega) [-getElem?_pos,wrap64,acd];refine bB (fun h5=>?_) (fun h5=>?_)
 ·have h5:i<l.length:=by omega
  have hf:=h i h5;simp only[Ps.row]at hf;simp (disch:=omega) [-getElem?_pos,wrap64,aY (l:=l),hf];refine ic (fun h6=>?_) (fun h6=>?_)
  ·refine hQ _ ?_
   rw[dD (by omega)]
   exact(Be.2 ⟨_,oo h5,h6⟩).symm
  ·refine bu (i+1) (by simp) ⟨by omega,?_⟩ (by omega)
   intro x hx;rw[jr h5]at hx;rcases mS.1 hx with hx|hx
   ·exact hp x hx
   ·rw[pq.1 hx];exact h6
 ·obtain rfl:i=l.length:=by omega
  refine hQ _ ?_;rw[pt]at hp;rw[show l.any p=false from mR.2 fun x hx=>by rw[hp x hx];simp]
  rfl
theorem axg(l:List Ps)(hl:l.length≤1000)(p:Ps→Bool)(f:FuncId)(G:List aP)(h:∀i,i<l.length→aX F f [.agg (nth l i).row] G=some (.bool (p (nth l i)),G)) :
  aX F 67 [.slice none 3 (l.map Ps.row),.fn f []] G=some (.bool (l.any p),G) :=
 bL rfl rfl (by
  obtain⟨k,h1,h2⟩:=axf l hl p f G h;simp[wrap64,abo,h2];exact h1)
def CD(r:Dr):Bool:=decide (8589934592<r.pow)
def uq(x:Ps):Bool:=x.re.any CD
theorem axh(r:Dr)(G:List aP):aX F 114 [dr r] G=some (.bool (CD r),G) :=
 bL rfl rfl (by simp +contextual (disch:=omega) [-getElem?_pos,-List.length_eq_zero_iff,-Int.natCast_eq_zero,wrap64,acg,CD])
theorem axi(x:Ps)(h:x.re.length≤1000)(G:List aP):aX F 68 [ps x] G=some (.bool (uq x),G) :=
 bL rfl rfl (by
  have h0:=axe x.re h CD 114 G fun i _=>axh _ G;simp +contextual (disch:=omega) [-getElem?_pos,-List.length_eq_zero_iff,-Int.natCast_eq_zero,wrap64,abp,h0,uq])
noncomputable def sG(c:Cs)(f:Fl)(p:Pn)(x:Wd):Int:=if lY c f p x.s≠0 then lY c f p x.s else if (jz c f p x.s).any uq=true then 1 else 0
noncomputable def ku(c:Cs)(f:Fl)(p:Pn)(l:List Wd):Int :=
 if oD c p≠0 then oD c p else if sE l p.l.length≠0 then sE l p.l.length else du (fun i=>sG c f p (nth l i)) l.length 0
noncomputable def jj(c:Cs)(f:Fl)(p:Pn)(x:Wd):Ws:=vk f (jz c f p x.s)
noncomputable def iB(c:Cs)(f:Fl)(p:Pn)(l:List Wd):List Ws:=l.map (jj c f p)
noncomputable def zE(t:Option Nat)(c:Cs)(f:Fl)(p:Pn)(l:List Wd):V:=.tuple (if ku c f p l=0 then [.slice t 4 ((iB c f p l).map Ws.row),i64 0] else [.slice t 4 [],i64 (ku c f p l)])
theorem ON{t:Option Nat}{c:Cs}{f:Fl}{p:Pn}{l:List Wd}(h:ku c f p l=0):zE t c f p l=.tuple [.slice t 4 ((iB c f p l).map Ws.row),i64 0]:=by rw[zE,aK h]
theorem Wb{t:Option Nat}{c:Cs}{f:Fl}{p:Pn}{l:List Wd}(h:ku c f p l≠0):zE t c f p l=.tuple [.slice t 4 [],i64 (ku c f p l)]:=by rw[zE,av h]
theorem ahU{c:Cs}{f:Fl}{p:Pn}{l:List Wd}{i:Nat}(h:i<l.length):iB c f p (l.take (i+1))=iB c f p (l.take i)++[jj c f p (nth l i)]:=by
 rw[iB,jr h,Hn];rfl
structure Pz(c:Cs)(f:Fl)(p:Pn)(l:List Sp):Prop where
 len:(jz c f p l).length=l.length
 jI:l.length≤96
 re:∀i,i<(jz c f p l).length→(nth (jz c f p l) i).re.length=c.s.length
 d:f.d.length=c.s.length
 s:c.s.length≤6
 c0:eQ c=0
theorem CE{c:Cs}{f:Fl}{p:Pn}{l:List Sp}(h:lY c f p l=0):Pz c f p l:=by
 unfold lY at h;split at h
 ·rename_i h1;exact absurd h h1
 ·rename_i h1
  have b:=V6 (iu h1);have cv:=jM b.c0;have e:(jz c f p l).length=l.length:=by simp[jz,mn]
  refine⟨e,b.dC,fun i hi=>?_,b.f0.2.1.1,cv.s,b.c0⟩;rw[e]at hi;have:nth (jz c f p l) i=uk c f (nB p l) i:=by simp[jz,mn,nth,List.getD,hi]
  rw[this];exact(GS cv _ _).1
theorem Wc{c:Cs}(hr:im c.r){f:Fl}(hf:kq f)(p:Pn)(l:List Wd)(G:List aP):aX F 30 [cs c,fl f,pn p,iK l] G=some (zE (some 0) c f p l,G) :=
 bL rfl rfl (by
  generalize hW:zE (some 0) c f p l=W;unfold zE ku at hW;have h0:=fun G=>ahH c hr p G;by_cases h1:oD c p=0
  case neg =>
   simp only[aK h1,av h1]at hW;simp +contextual (disch:=omega) [-getElem?_pos,-List.length_eq_zero_iff,-Int.natCast_eq_zero,wrap64,MH,h0,h1];exact hW
  simp only[av (show ¬ oD c p≠0 from fun g=>g h1)]at hW;have h2:=fun G=>V9 c l p.l.length G;by_cases h3:sE l p.l.length=0
  case neg =>
   simp only[aK h3,av h3]at hW;simp +contextual (disch:=omega) [-getElem?_pos,-List.length_eq_zero_iff,-Int.natCast_eq_zero,wrap64,MH,h0,h1,h2,h3];exact hW
  simp only[av (show ¬ sE l p.l.length≠0 from fun g=>g h3)]at hW;have hb:=OK h3;simp +contextual (disch:=omega) [-getElem?_pos,-List.length_eq_zero_iff,-Int.natCast_eq_zero,wrap64,MH,h0,h1,h2,h3];refine go_loop (fun i:Nat=>anS (.slice (some 1059) 4 ((iB c f p (l.take i)).map Ws.row)) (iK l) l.length i c.row f.row [i64 p.f,j0 p.l] i G)
   (fun i=>i≤l.length∧(.tuple (if du (fun i=>sG c f p (nth l i)) (l.length-i) i=0 then [.slice (some 0) 4 ((iB c f p l).map Ws.row),i64 0] else [.slice (some 0) 4 [],i64 (du (fun i=>sG c f p (nth l i)) (l.length-i) i)]):V)=W) (fun i=>l.length-i) 0 rfl (by simp[iB]) ⟨by omega,hW⟩ ?_
  rintro i ⟨hi,hq⟩;simp +contextual (disch:=omega) [-getElem?_pos,-List.length_eq_zero_iff,-Int.natCast_eq_zero,wrap64,aaL];refine bB (fun h5=>?_) (fun h5=>?_)
  ·have h5:i<l.length:=by omega
   rw[jq h5]at hq;obtain⟨X0,x0,y0,hp⟩:=aw2 hr hf p (nth l i).s [];by_cases h6:lY c f p (nth l i).s=0
   case neg =>
    have e:sG c f p (nth l i)=lY c f p (nth l i).s:=by rw[sG,aK h6]
    obtain⟨t0,u0,e0⟩:=y0 h6;rw[e0]at hp;simp only[e,av h6]at hq;simp +contextual (disch:=omega) [-getElem?_pos,-List.length_eq_zero_iff,-Int.natCast_eq_zero,wrap64,aY (l:=l),hp,h6];exact hq
   have pz:=CE h6;rw[x0 h6,ahM h6]at hp;have We:(jz c f p (nth l i).s).length≤1000:=by have:=pz.len;have:=pz.jI;omega
   have tw:∀k,k<(jz c f p (nth l i).s).length→(nth (jz c f p (nth l i).s) k).re.length≤f.d.length:=fun k hk=>by
    have:=pz.re k hk;have:=pz.d;omega
   have hd:f.d.length≤1000:=by have:=pz.d;have:=pz.s;omega
   have OO:=axg (jz c f p (nth l i).s) We uq 68 G fun k hk=>axi _ (by have:=tw k hk;omega) G
   obtain⟨t2,hw⟩:=axc hd We tw [];change aX F _ _ _=some (.tuple [_,.slice (some 0) 3 ((jz c f p (nth l i).s).map Ps.row),_],_)at hp;have e0:sG c f p (nth l i)=if (jz c f p (nth l i).s).any uq=true then 1 else 0:=by rw[sG,av (fun g=>g h6)]
   have e1:jj c f p (nth l i)=vk f (jz c f p (nth l i).s):=rfl;have e2:=ahU (c:=c) (f:=f) (p:=p) h5;rw[e1]at e2;generalize jz c f p (nth l i).s=X at *;cases h7:X.any uq with
   |true =>
    rw[h7,aK rfl]at e0;rw[h7]at OO;simp only[e0,av (show ¬ (1:Int)=0 by omega)]at hq
    simp +contextual (disch:=omega) [-getElem?_pos,-List.length_eq_zero_iff,-Int.natCast_eq_zero,wrap64,aY (l:=l),hp,OO];exact hq
   |false =>
    rw[h7,av (by simp)]at e0
    rw[h7]at OO;simp only[e0,if_true]at hq;have CF:(iB c f p (l.take i)).length=i:=by simp[iB];omega
    simp +contextual (disch:=omega) [-getElem?_pos,-List.length_eq_zero_iff,-Int.natCast_eq_zero,wrap64,aY (l:=l),hp,OO,hw,CF];exact bu (i+1) (by simp[e2]) ⟨by omega,hq⟩ (by omega)
  ·obtain rfl:i=l.length:=by omega
   rw[lC]at hq;simp only[if_true]at hq;have CF:(iB c f p l).length=l.length:=by simp[iB]
   simpa [CF] using hq)
theorem axk(l:List Ds){i:Nat}(h:i<l.length):(l.map Ds.v).take (i+1)=(l.map Ds.v).take i++[(nth l i).v]:=by
 rw[jr (by simpa using h),ua h]
theorem axl(l:List Ds):(l.map ((fun n:Int=>[V.int .i64 n])∘Ds.v)).flatten=cP (l.map Ds.v):=by
 induction l with
 |nil=>rfl
 |cons a l ih=>simpa [cP] using ih
theorem axm{l:List Int}{k:Nat}{x:Int}(h:k<l.length):(cP (l.set k x))[k]?=some (i64 x):=by simp[cP,h]
theorem ahV:cP []=[]:=rfl
theorem ahW{α:Type}[Inhabited α]{p:α→Bool}{l:List α}{i:Nat}(h:i<l.length):(l.drop i).any p=(p (nth l i) || (l.drop (i+1)).any p):=by
 rw[m7 h];rfl
set_option maxHeartbeats 4000000 in
theorem ahX{c:Cs}(hr:im c.r){f:Fl}(hf:kq f)(p:Pn)(l:List Wd)(hs:sE l p.l.length=0→∀i,i<l.length→∀k,k<(nth l i).s.length→(nth (nth l i).s k).a.length≤1000∧(nth (nth l i).s k).b.length≤1000)(G:List aP) :
  aX F 31 [cs c,fl f,pn p,iK l] G=some (zE (some 0) c f p l,G) :=
 bL rfl rfl (by
  generalize hW:zE (some 0) c f p l=W;unfold zE ku at hW;have h0:=fun G=>ahI c hr p G;by_cases h1:oD c p=0
  case neg =>
   simp only[aK h1,av h1]at hW;simp +contextual (disch:=omega) [-getElem?_pos,-List.length_eq_zero_iff,-Int.natCast_eq_zero,wrap64,MI,h0,h1];exact hW
  simp only[av (show ¬ oD c p≠0 from fun g=>g h1)]at hW;have h2:=fun G=>ahN c l p.l.length G;by_cases h3:sE l p.l.length=0
  case neg =>
   simp only[aK h3,av h3]at hW;simp +contextual (disch:=omega) [-getElem?_pos,-List.length_eq_zero_iff,-Int.natCast_eq_zero,wrap64,MI,h0,h1,h2,h3];exact hW
  simp only[av (show ¬ sE l p.l.length≠0 from fun g=>g h3)]at hW;have hb:=OK h3;have hs:=hs h3;simp +contextual (disch:=omega) [-getElem?_pos,-List.length_eq_zero_iff,-Int.natCast_eq_zero,wrap64,MI,h0,h1,h2,h3];refine go_loop (fun i:Nat=>an2 (.slice (some 1158) 4 ((iB c f p (l.take i)).map Ws.row)) (iK l) l.length i c.row f.row [i64 p.f,j0 p.l] i G)
   (fun i=>i≤l.length∧(.tuple (if du (fun i=>sG c f p (nth l i)) (l.length-i) i=0 then [.slice (some 0) 4 ((iB c f p l).map Ws.row),i64 0] else [.slice (some 0) 4 [],i64 (du (fun i=>sG c f p (nth l i)) (l.length-i) i)]):V)=W) (fun i=>l.length-i) 0 rfl (by simp[iB]) ⟨by omega,hW⟩ ?_
  rintro i ⟨hi,hq⟩;simp +contextual (disch:=omega) [-getElem?_pos,-List.length_eq_zero_iff,-Int.natCast_eq_zero,wrap64,aaO];refine bB (fun h5=>?_) (fun h5=>?_)
  case refine_2 =>
   obtain rfl:i=l.length:=by omega
   rw[lC]at hq;simp only[if_true]at hq;have CF:(iB c f p l).length=l.length:=by simp[iB]
   simpa [CF] using hq
  have h5:i<l.length:=by omega
  rw[jq h5]at hq;obtain⟨G1,hp⟩:=aw3 hr hf p (nth l i).s (hs i h5);by_cases h6:lY c f p (nth l i).s=0
  case neg =>
   have e:sG c f p (nth l i)=lY c f p (nth l i).s:=by rw[sG,aK h6]
   rw[aw4 h6]at hp;simp only[e,av h6]at hq;simp +contextual (disch:=omega) [-getElem?_pos,-List.length_eq_zero_iff,-Int.natCast_eq_zero,wrap64,aY (l:=l),hp,h6];exact hq
  have pz:=CE h6;rw[ahM h6]at hp;have We:(jz c f p (nth l i).s).length≤1000:=by have:=pz.len;have:=pz.jI;omega
  have tw:=pz.re;have hd:=pz.d;have hc6:=pz.s;change aX F _ _ _=some (.tuple [_,.slice (some 0) 3 ((jz c f p (nth l i).s).map Ps.row),_],_)at hp;have e0:sG c f p (nth l i)=if (jz c f p (nth l i).s).any uq=true then 1 else 0:=by rw[sG,av (fun g=>g h6)]
  have e1:jj c f p (nth l i)=vk f (jz c f p (nth l i).s):=rfl;have e2:=ahU (c:=c) (f:=f) (p:=p) h5;rw[e1]at e2;have CF:(iB c f p (l.take i)).length=i:=by simp[iB];omega
  clear pz
  generalize jz c f p (nth l i).s=X at *;have ov:(f.d.map Ds.v).length=c.s.length:=by simpa using hd
  simp +contextual (disch:=omega) [-getElem?_pos,-List.length_eq_zero_iff,-Int.natCast_eq_zero,wrap64,aY (l:=l),hp,agK];refine go_loop (fun j:Nat=>⟨[(4,.bj 4 0),(5,.bj 5 0),(6,.bj 6 0),(12,.slice (some 1158) 4 ((iB c f p (l.take i)).map Ws.row)),(16,Cy X),(18,.bj 18 0),(19,.bR 62 1 c.s.length),(40,iK l),(41,i64 l.length),(42,i64 i),(65,i64 c.s.length),(66,i64 j)],
   [(4,c.row),(5,f.row),(6,[i64 p.f,j0 p.l]),(18,[.bU,z0,z0,z0]),(62,cP (pad 0 ((f.d.map Ds.v).take j) c.s.length))],[(1158,i)],G⟩) (fun j=>j≤c.s.length) (fun j=>c.s.length-j) 0 rfl (by simp) (by omega) ?_
  intro j hj;simp +contextual (disch:=omega) [-getElem?_pos,-List.length_eq_zero_iff,-Int.natCast_eq_zero,wrap64,aaM];refine bB (fun h7=>?_) (fun h7=>?_)
  ·have h7:j<c.s.length:=by omega
   have h8:j<f.d.length:=by omega
   have h9:((f.d.map Ds.v).take j).length=j:=by simp;omega
   have gf:j<(pad 0 ((f.d.map Ds.v).take j) c.s.length).length:=by rw[Kg (by omega)];exact h7
   have kR:=Oh (d:=(0:Int)) (x:=(nth f.d j).v) (n:=c.s.length) h9.symm (by omega)
   rw[←axk _ h8]at kR;simp +contextual (disch:=omega) [-getElem?_pos,-List.length_eq_zero_iff,-Int.natCast_eq_zero,wrap64,aY (l:=f.d),kR];exact bu (j+1) (by simp) (by omega) (by omega)
  obtain rfl:j=c.s.length:=by omega
  have hpd:pad 0 ((f.d.map Ds.v).take c.s.length) c.s.length=f.d.map Ds.v:=by
   rw[lZ (by omega),pad,ov,qd]
   simp
  rw[hpd];by_cases hz:c.s=[]
  ·have Ew:f.d=[]:=by have:=hd;rw[hz]at this;exact a8.1 (by simpa using this)
   have Wf:∀i,i<X.length→(nth X i).re=[]:=fun i hi=>by
    have:=tw i hi;rw[hz]at this;exact a8.1 (by simpa using this)
   have fm:X.any uq=false:=by
    rw[mR];intro x hx;obtain⟨k,hk,rfl⟩:=Hp.1 hx;have:=Wf k hk;rw[show nth X k=X[k] by simp[nth,List.getD,hk]]at this
    simp[uq,this]
   have hW2:vk f X=⟨[],[],0,0,0⟩:=by
    unfold vk;rw[OM Wf,uo,Ew];rfl
   rw[fm,av (by simp)]at e0
   simp only[e0,if_true]at hq;simp +contextual (disch:=omega) [-getElem?_pos,-List.length_eq_zero_iff,-Int.natCast_eq_zero,wrap64,hz,Ew,show lb [none] (chunks 1 [] 0 0)=some [] from rfl,ahV];refine go_loop (fun j:Nat=>⟨[(4,.bj 4 0),(5,.bj 5 0),(6,.bj 6 0),(12,.slice (some 1158) 4 ((iB c f p (l.take i)).map Ws.row)),(18,.bj 18 0),(19,.bR 62 1 0),(40,iK l),(41,i64 l.length),(42,i64 i),(84,Cy X),(85,i64 X.length),(86,i64 j)],
    [(4,c.row),(5,f.row),(6,[i64 p.f,j0 p.l]),(18,[.bU,z0,z0,z0]),(62,[])],[(1158,i)],G⟩) (fun j=>j≤X.length) (fun j=>X.length-j) 0 rfl (by simp[hz,Ew,ahV]) (by omega) ?_
   intro j hj;simp +contextual (disch:=omega) [-getElem?_pos,-List.length_eq_zero_iff,-Int.natCast_eq_zero,wrap64,SC];refine bB (fun h=>?_) (fun h=>?_)
   ·have h:j<X.length:=by omega
    have h0:=Wf j h;simp +contextual (disch:=omega) [-getElem?_pos,-List.length_eq_zero_iff,-Int.natCast_eq_zero,wrap64,aY (l:=X),h0];rw[aaN,yJ];simp +contextual (disch:=omega) [-getElem?_pos,-List.length_eq_zero_iff,-Int.natCast_eq_zero,wrap64,Ss];exact bu (j+1) (by simp) (by omega) (by omega)
   ·simp +contextual (disch:=omega) [-getElem?_pos,-List.length_eq_zero_iff,-Int.natCast_eq_zero,wrap64,CF]
    exact bu (i+1) (by simp[e2,hW2]) ⟨by omega,hq⟩ (by omega)
  have gX:0<c.s.length:=by cases e:c.s with|nil=>exact absurd e hz|cons=>simp
  have cq:f.d.map Ds.v≠[]:=by intro e;rw[e]at ov;simp at ov;omega
  have Wg:0<f.d.length:=by omega
  have BZ:f.d.isEmpty=false:=by cases e:f.d with|nil=>rw[e]at Wg;simp at Wg|cons=>rfl
  simp +contextual (disch:=omega) [-getElem?_pos,-List.length_eq_zero_iff,-Int.natCast_eq_zero,wrap64,hd,ov,Wg,BZ];refine go_loop (fun x:Nat×Ws=>an0 (.slice (some 1158) 4 ((iB c f p (l.take i)).map Ws.row)) c.s.length (iK l) l.length i (Cy X) X.length x.1 c.row f.row [i64 p.f,j0 p.l] [.bR 20082 1 c.s.length,i64 x.2.o,i64 x.2.p,i64 x.2.t] (cP x.2.v) (cP x.2.h) i G)
   (fun x=>x.1≤X.length∧qy (X.drop x.1) x.2=vk f X∧x.2.v.length=c.s.length∧x.2.h.length=c.s.length∧(X.drop x.1).any uq=X.any uq) (fun x=>X.length-x.1) (0,uo f) rfl (by simp[uo,hd,axl]) ⟨by omega,rfl,by simpa [uo] using hd,by simpa [uo] using hd,rfl⟩ ?_
  rintro⟨j,w⟩ ⟨hj,hw,hv,hh,ha⟩;simp only at hj hw hv hh ha;simp +contextual (disch:=omega) [-getElem?_pos,-List.length_eq_zero_iff,-Int.natCast_eq_zero,wrap64,SC];refine bB (fun h=>?_) (fun h=>?_)
  ·have h:j<X.length:=by omega
   have Ay:=tw j h;rw[ahQ h]at hw;rw[ahW h]at ha;simp +contextual (disch:=omega) [-getElem?_pos,-List.length_eq_zero_iff,-Int.natCast_eq_zero,wrap64,aY (l:=X)];refine go_loop (fun x:Nat×Ws=>anV (.slice (some 1158) 4 ((iB c f p (l.take i)).map Ws.row)) c.s.length (iK l) l.length i (Cy X) X.length j (rcs (nth X j).re) (nth X j).re.length x.1 c.row f.row [i64 p.f,j0 p.l] [.bR 20082 1 c.s.length,i64 x.2.o,i64 x.2.p,i64 x.2.t] (cP x.2.v) (cP x.2.h) i G)
    (fun x=>x.1≤(nth X j).re.length∧nC x.1 ((nth X j).re.drop x.1) x.2=nC 0 (nth X j).re w∧x.2.v.length=c.s.length∧x.2.h.length=c.s.length∧((nth X j).re.drop x.1).any CD=uq (nth X j)) (fun x=>(nth X j).re.length-x.1) (0,w) rfl (by simp) ⟨by omega,by simp,hv,hh,rfl⟩ ?_
   rintro⟨k,u⟩ ⟨hk,hu,Ep,hh2,xD⟩;simp only at hk hu Ep hh2 xD;simp +contextual (disch:=omega) [-getElem?_pos,-List.length_eq_zero_iff,-Int.natCast_eq_zero,wrap64,Ss];refine bB (fun h8=>?_) (fun h8=>?_)
   ·have h8:k<(nth X j).re.length:=by omega
    rw[ahP h8]at hu;rw[ahW h8]at xD;have r0:k<u.v.length:=by omega
    have hkh:k<u.h.length:=by omega
    by_cases h9:8589934592<(nth (nth X j).re k).pow
    ·have gf:X.any uq=true:=by rw[←ha,← xD];simp[CD,h9]
     rw[gf,aK rfl]at e0;simp only[e0,av (show ¬ (1:Int)=0 by omega)]at hq
     simp +contextual (disch:=omega) [-getElem?_pos,-List.length_eq_zero_iff,-Int.natCast_eq_zero,wrap64,aY (l:=(nth X j).re),h9];exact hq
    ·have gf:CD (nth (nth X j).re k)=false:=by simp[CD];omega
     rw[gf,EG]at xD;simp +contextual (disch:=omega) [-getElem?_pos,-List.length_eq_zero_iff,-Int.natCast_eq_zero,wrap64,aY (l:=(nth X j).re),h9,lA,axm];exact bu (k+1,rI k (nth (nth X j).re k) u) (by simp[rI,OL]) ⟨by omega,hu,by simp[rI];omega,by simp[rI];omega,xD⟩ (by simp;omega)
   ·obtain rfl:k=(nth X j).re.length:=by omega
    simp only[rJ,nC,zH]at hu xD;rw[←hu]at hw;rw[←xD,EG]at ha;exact bu (j+1,u) (by simp) ⟨by omega,hw,Ep,hh2,ha⟩ (by simp;omega)
  ·obtain rfl:j=X.length:=by omega
   simp only[rJ,qy,zH]at hw ha;subst hw;rw[←ha,av (by simp)]at e0
   simp only[e0,if_true]at hq;simp +contextual (disch:=omega) [-getElem?_pos,-List.length_eq_zero_iff,-Int.natCast_eq_zero,wrap64,CF,hh];exact bu (i+1) (by simp[e2]) ⟨by omega,hq⟩ (by omega))
end Go.Proofs.YtcelmhaoipbdiaaGreat
namespace Go.Proofs.YtcelmhaoipbdiaaGreat
set_option linter.all false
open Go.Vm
theorem ahY{f:Nat→Int}:∀{n:Nat},(∀i,i<n→0≤f i∧f i≤1)→0≤dv f n∧dv f n≤n
 |0,_=>by simp[dv]
 |n+1,h=>by
  have h1:=ahY (n:=n) fun i hi=>h i (by omega)
  have h2:=h n (by omega)
  simp only[dv];omega
def Ez(r:Dr):Prop:=(0≤r.pow∧r.pow≤6442450944)∧0≤r.jL∧r.jL≤6
theorem axp{d:Dm}(hd:fW d=0)(s:Ds)(a b q:Int):Ez (mj d s a b q):=by
 have hv:=yT hd;have hu:=hv.u;have h1:=J3 (f:=rn d s (lK d q (eG s a b))) (n:=d.u.length) (fun i _=>JF) d.u.length (bY _);have h2:=ahY (f:=jL d s (lK d q (eG s a b))) (n:=d.u.length) fun i _=>Nq;refine⟨?_,?_⟩
 ·show 0≤dv _ _∧dv _ _≤_
  omega
 ·show 0≤dv _ _∧dv _ _≤_
  omega
theorem axq{c:Cs}{f:Fl}{p:Sp}(h:Pa c f p):∀i,i<(la c f p).re.length→Ez (nth (la c f p).re i):=fun i hi=>by
 obtain⟨k',_,h2,h3⟩:=(Oc h (bY _)).site i hi;have hc:=jM h.c0;have hl:=(GS hc p f).1;have h4:=(xN hc (i:=i) (by simp only[la]at hi;omega)).2.2
 have h5:nth (la c f p).re i=_:=h3.r;rw[h5];exact axp h4 _ _ _ _
theorem axr{c:Cs}{f:Fl}{p:Pn}{l:List Sp}(h:lY c f p l=0):∀i,i<(jz c f p l).length→∀k,k<(nth (jz c f p l) i).re.length→Ez (nth (nth (jz c f p l) i).re k):=by
 have e:(jz c f p l).length=l.length:=by simp[jz,mn]
 unfold lY at h;split at h
 ·rename_i h1;exact absurd h h1
 have ra:=ag4 h;intro i hi;rw[e]at hi;have h3:nth (jz c f p l) i=uk c f (nB p l) i:=by simp[jz,mn,nth,List.getD,hi]
 rw[h3];exact axq (ra.pa (by rw[Kt];exact hi))
theorem ahZ:∀{re:List Dr} {i:Nat} {w:Ws},(∀k,k<re.length→Ez (nth re k))→(0≤w.p∧w.p+6442450944*re.length≤4611686018427387904)→(0≤w.t∧w.t+6*re.length≤4611686018427387904) →
  (0≤(nC i re w).p∧(nC i re w).p≤w.p+6442450944*re.length)∧0≤(nC i re w).t∧(nC i re w).t≤w.t+6*re.length
 |[],i,w,_,h1,h2=>by simp[nC];omega
 |r::re,i,w,h,h1,h2=>by
  have h0:Ez r:=h 0 (by simp)
  obtain⟨a,b⟩:=h0;simp only[tx]at h1 h2 ⊢;have e1:(rI i r w).p=w.p+r.pow:=by simp only[rI];rw[wrap64 (by omega) (by omega)]
  have e2:(rI i r w).t=w.t+r.jL:=by simp only[rI];rw[wrap64 (by omega) (by omega)]
  have:=ahZ (re:=re) (i:=i+1) (w:=rI i r w) (fun k hk=>h (k+1) (by simp;omega)) (by omega) (by omega)
  simp only[nC];omega
theorem ah0:∀{l:List Ps} {w:Ws} {m:Nat},m≤1000→(∀i,i<l.length→(nth l i).re.length≤m∧∀k,k<(nth l i).re.length→Ez (nth (nth l i).re k))→(0≤w.p∧w.p+6442450944*(m*l.length:Nat)≤4611686018427387904) →
  (0≤w.t∧w.t+6*(m*l.length:Nat)≤4611686018427387904) →
  (0≤(qy l w).p∧(qy l w).p≤w.p+6442450944*(m*l.length:Nat))∧0≤(qy l w).t∧(qy l w).t≤w.t+6*(m*l.length:Nat)
 |[],w,m,_,_,h1,h2=>by simp[qy];omega
 |x::l,w,m,hm,h,h1,h2=>by
  have h0:=h 0 (by simp)
  change x.re.length≤m∧∀k,k<x.re.length→Ez (nth x.re k)at h0;have e:m*(x::l).length=m*l.length+m:=by rw[tx,Nat.mul_add,Hv]
  rw[e]at h1 h2 ⊢;have a:=ahZ (re:=x.re) (i:=0) (w:=w) h0.2 (by omega) (by omega)
  have b:=ah0 (l:=l) (w:=nC 0 x.re w) (m:=m) hm (fun i hi=>h (i+1) (by simp;omega)) (by omega) (by omega)
  simp only[qy];omega
theorem OP{c:Cs}{f:Fl}{p:Pn}{x:Wd}(h:lY c f p x.s=0):(0≤(jj c f p x).p∧(jj c f p x).p≤3710851743744)∧0≤(jj c f p x).t∧(jj c f p x).t≤3456:=by
 have pz:=CE h;have hl:=pz.len;have hf:=pz.jI;have hc:=pz.s;have:=ah0 (l:=jz c f p x.s) (w:=uo f) (m:=6) (by omega) (fun i hi=>⟨by have:=pz.re i hi;omega,axr h i hi⟩) (by simp[uo];omega) (by simp[uo];omega)
 simp only[uo]at this;unfold jj vk uo;omega
theorem G7{c:Cs}{f:Fl}{p:Pn}{l:List Wd}(h:ku c f p l=0):eQ c=0∧(0<l.length∧l.length≤50)∧∀i,i<l.length→(1≤(nth l i).w∧(nth l i).w≤10000)∧lY c f p (nth l i).s=0:=by
 unfold ku at h;split at h
 ·rename_i h1;exact absurd h h1
 split at h
 ·rename_i h1;exact absurd h h1
 rename_i h1 h2;have hb:=OK (iu h2);have h4:∀i,i<l.length→lY c f p (nth l i).s=0:=fun i hi=>by
  have h3:=sj h i (by omega) (by omega)
  unfold sG at h3;split at h3
  ·rename_i h4;exact absurd h3 h4
  ·rename_i h4;exact iu h4
 exact⟨(CE (h4 0 hb.1.1)).c0,hb.1,fun i hi=>⟨(hb.2 i hi).1,h4 i hi⟩⟩
def bd(c:Cs)(w:Ws):Bool:=(c.s.zip w.h).any (fun x=>decide (zD x.1.d.r x.1.d.r.s<x.2)) || decide (0<w.o)
noncomputable def ur(l:List Wd)(i:Nat):Int:=dv (fun i=>(nth l i).w) i
noncomputable def nD(c:Cs)(f:Fl)(p:Pn)(l:List Wd)(i:Nat):Int:=dv (fun i=>if bd c (jj c f p (nth l i))=true then (nth l i).w else 0) i
noncomputable def oE(c:Cs)(f:Fl)(p:Pn)(l:List Wd)(i:Nat):Int:=dv (fun i=>(nth l i).w*(jj c f p (nth l i)).p) i
noncomputable def qA(c:Cs)(f:Fl)(p:Pn)(l:List Wd)(i:Nat):Int:=dv (fun i=>(nth l i).w*(jj c f p (nth l i)).t) i
theorem Ku{f:Nat→Int}{b:Int}:∀{n:Nat},(∀i,i<n→0≤f i∧f i≤b)→0≤dv f n∧dv f n≤b*n
 |0,_=>by simp[dv]
 |n+1,h=>by
  have h1:=Ku (n:=n) fun i hi=>h i (by omega)
  have h2:=h n (by omega)
  have:b*((n+1:Nat):Int)=b*n+b:=by rw[Int.natCast_add,Hf];simp
  simp only[dv];omega
theorem OQ{a b A B:Int}(h1:0≤a∧a≤A)(h2:0≤b∧b≤B):0≤a*b∧a*b≤A*B :=
 ⟨CK h1.1 h2.1,EI h1.2 h2.2 h2.1 (by omega)⟩
theorem Kw{c:Cs}{f:Fl}{p:Pn}{l:List Wd}(h:ku c f p l=0){i:Nat}(hi:i≤l.length) :
  (0≤ur l i∧ur l i≤500000)∧(0≤nD c f p l i∧nD c f p l i≤500000)∧(0≤oE c f p l i∧oE c f p l i≤1855425871872000000)∧0≤qA c f p l i∧qA c f p l i≤1728000000:=by
 obtain⟨_,h2,h3⟩:=G7 h;have a:=Ku (f:=fun i=>(nth l i).w) (b:=10000) (n:=i) fun j hj=>by have:=(h3 j (by omega)).1;show 0≤(nth l j).w∧_;omega
 have b:=Ku (f:=fun i=>if bd c (jj c f p (nth l i))=true then (nth l i).w else 0) (b:=10000) (n:=i) fun j hj=>by
  have:=(h3 j (by omega)).1
  split<;>omega
 have d:=Ku (f:=fun i=>(nth l i).w*(jj c f p (nth l i)).p) (b:=10000*3710851743744) (n:=i) fun j hj=>by
  obtain⟨g1,g2⟩:=h3 j (by omega)
  exact OQ (by omega) (OP g2).1
 have e:=Ku (f:=fun i=>(nth l i).w*(jj c f p (nth l i)).t) (b:=10000*3456) (n:=i) fun j hj=>by
  obtain⟨g1,g2⟩:=h3 j (by omega)
  exact OQ (by omega) (OP g2).2
 unfold ur nD oE qA;omega
theorem Wh{c:Cs}{f:Fl}{p:Pn}{l:List Wd}(h:ku c f p l=0){i:Nat}(hi:i<l.length) :
  (1≤(nth l i).w∧(nth l i).w≤10000)∧(0≤(nth l i).w*(jj c f p (nth l i)).p∧(nth l i).w*(jj c f p (nth l i)).p≤37108517437440000)∧0≤(nth l i).w*(jj c f p (nth l i)).t∧(nth l i).w*(jj c f p (nth l i)).t≤34560000:=by
 obtain⟨_,h2,h3⟩:=G7 h;obtain⟨g1,g2⟩:=h3 i hi;have a:=OQ (a:=(nth l i).w) (A:=10000) (by omega) (OP g2).1
 have b:=OQ (a:=(nth l i).w) (A:=10000) (by omega) (OP g2).2
 omega
end Go.Proofs.YtcelmhaoipbdiaaGreat
namespace Go.Proofs.YtcelmhaoipbdiaaGreat
set_option linter.all false
open Go.Vm
attribute [local simp] ly lz kF lx
theorem ah1{a b c:Int}:lb [none] (chunks 1 [V.int .i64 a,V.int .i64 b,V.int .i64 c] 0 3)=some [[i64 a],[i64 b],[i64 c]]:=rfl
theorem Wi{L:bD}{d g m z:Nat}{x:bA}{w:Bool}{os:List bK}{keep:dj}{k:cH}{S:St} :
  en L (⟨some d,.arr m z x,some (g,w)⟩::os) keep k S=jG w (Go.Vm.look g S.env) (en L (⟨some d,.arr m z x,none⟩::os) keep k S) (en L os keep k (S.put (some d) .undef)):=by
 rw[iY,iY];simp only[bK.run];rcases Go.Vm.look g S.env with _|v
 ·simp[cR,jG]
 ·cases v with
  |bool b=>simp only[jG];cases b==w<;>simp
  |undef=>simp[jG]
  |_=>simp[cR,jG]
theorem OR{c:Cs}{f:Fl}{p:Pn}{l:List Wd}{i:Nat}(h:i<l.length):nth (iB c f p l) i=jj c f p (nth l i):=by
 rw[iB,ua h]
theorem Kx{c:Cs}{f:Fl}{p:Pn}{l:List Wd}:(iB c f p l).length=l.length:=by simp[iB]
theorem Wj{c:Cs}{f:Fl}{p:Pn}{x:Wd}(h:lY c f p x.s=0):(jj c f p x).h.length=c.s.length:=by
 have:=(CE h).d;rw[←this];exact ahS.2.trans (by simp[uo])
theorem axs(c:Cs)(hs:c.s.length≤1000)(w:Ws)(hw:w.h.length=c.s.length)(G:List aP):aX F 72 [cs c,.agg w.row] G=some (.bool (bd c w),G) :=
 bL rfl rfl (by
  generalize hW:bd c w=W;unfold bd at hW;simp +contextual (disch:=omega) [-getElem?_pos,-List.length_eq_zero_iff,-Int.natCast_eq_zero,wrap64,abw];refine go_loop (fun i:Nat=>ao0 (ru c.s) c.s.length i w.row G) (fun i=>i≤c.s.length∧(((c.s.drop i).zip (w.h.drop i)).any (fun x=>decide (zD x.1.d.r x.1.d.r.s<x.2)) || decide (0<w.o))=W) (fun i=>c.s.length-i) 0 rfl (by simp) ⟨by omega,by simpa using hW⟩ ?_
  rintro i ⟨hi,hq⟩;simp +contextual (disch:=omega) [-getElem?_pos,-List.length_eq_zero_iff,-Int.natCast_eq_zero,wrap64,abv];refine bB (fun h=>?_) (fun h=>?_)
  ·have h:i<c.s.length:=by omega
   rw[m7 h,m7 (l:=w.h) (by omega),Pv,CM]at hq
   have hV:=aw5 (nth c.s i).d.r (nth c.s i).d.r.s [];by_cases h2:zD (nth c.s i).d.r (nth c.s i).d.r.s<nth w.h i
   ·rw[dD h2,Bool.true_or,Bool.true_or]at hq
    simp +contextual (disch:=omega) [-getElem?_pos,-List.length_eq_zero_iff,-Int.natCast_eq_zero,wrap64,aY (l:=c.s),hV,dA (l:=w.h),h2];exact hq.symm
   ·rw[decide_eq_false h2,EG]at hq
    simp +contextual (disch:=omega) [-getElem?_pos,-List.length_eq_zero_iff,-Int.natCast_eq_zero,wrap64,aY (l:=c.s),hV,dA (l:=w.h),h2];exact bu (i+1) (by simp) ⟨by omega,hq⟩ (by omega)
  ·obtain rfl:i=c.s.length:=by omega
   rw[rJ,WR,zH,EG]at hq;exact hq)
noncomputable def CG(c:Cs)(f:Fl)(p:Pn)(l:List Wd):V:=.tuple (if ku c f p l=0 then [i64 (nD c f p l l.length),i64 (ur l l.length),i64 0] else [i64 0,i64 0,i64 (ku c f p l)])
theorem Wk{c:Cs}(hr:im c.r){f:Fl}(hf:kq f)(p:Pn)(l:List Wd)(G:List aP):aX F 32 [cs c,fl f,pn p,iK l] G=some (CG c f p l,G) :=
 bL rfl rfl (by
  generalize hW:CG c f p l=W;unfold CG at hW;have h0:=Wc hr hf p l [];by_cases h1:ku c f p l=0
  case neg =>
   rw[Wb h1]at h0;rw[av h1]at hW;simp +contextual (disch:=omega) [-getElem?_pos,-List.length_eq_zero_iff,-Int.natCast_eq_zero,wrap64,SD,h0,h1];exact hW
  rw[ON h1]at h0;rw[aK h1]at hW;obtain⟨_,_,h3⟩:=G7 h1;have hlen:=Kx (c:=c) (f:=f) (p:=p) (l:=l);have tL:=fun i=>OR (c:=c) (f:=f) (p:=p) (l:=l) (i:=i);have hA:∀i,ur l (i+1)=ur l i+(nth l i).w:=fun i=>rfl;have hR:∀i,nD c f p l (i+1)=nD c f p l i+if bd c (jj c f p (nth l i))=true then (nth l i).w else 0:=fun i=>rfl
  simp +contextual (disch:=omega) [-getElem?_pos,-List.length_eq_zero_iff,-Int.natCast_eq_zero,wrap64,SD,h0,h1];refine go_loop (fun i:Nat=>an4 (iK l) (nD c f p l i) (ur l i) (.slice none 4 ((iB c f p l).map Ws.row)) l.length i c.row G) (fun i=>i≤l.length) (fun i=>l.length-i) 0 rfl (by simp[nD,ur,dv,hlen]) (by omega) ?_
  intro i hi;have b:=Kw h1 hi;simp +contextual (disch:=omega) [-getElem?_pos,-List.length_eq_zero_iff,-Int.natCast_eq_zero,wrap64,aaP];refine bB (fun h=>?_) (fun h=>?_)
  ·have h:i<l.length:=by omega
   have b1:=(Wh h1 h).1;have Ky:=axs c (by have:=(CE (h3 i h).2).s;omega) (jj c f p (nth l i)) (Wj (h3 i h).2) []
   have tL:=tL i h;have hA:=hA i;have hR:=hR i;have bI:i<(iB c f p l).length:=by omega
   simp only[Ws.row,Ws.Wa]at Ky;cases hb:bd c (jj c f p (nth l i)) with
   |true =>
    rw[hb]at Ky;rw[hb,aK rfl]at hR;simp +contextual (disch:=omega) [-getElem?_pos,-List.length_eq_zero_iff,-Int.natCast_eq_zero,wrap64,aY (l:=l),aY (l:=iB c f p l),tL,Ky];exact bu (i+1) (by simp[hA,hR]) (by omega) (by omega)
   |false =>
    rw[hb]at Ky;rw[hb,av (by simp)]at hR
    simp +contextual (disch:=omega) [-getElem?_pos,-List.length_eq_zero_iff,-Int.natCast_eq_zero,wrap64,aY (l:=l),aY (l:=iB c f p l),tL,Ky];exact bu (i+1) (by simp[hA,hR]) (by omega) (by omega)
  ·obtain rfl:i=l.length:=by omega
   exact hW)
noncomputable def OS(c:Cs)(f:Fl)(p:Pn)(l:List Wd):V:=.tuple (if ku c f p l=0 then [.agg [i64 (nD c f p l l.length),i64 (-oE c f p l l.length),i64 (qA c f p l l.length)],i64 0] else [.agg [i64 0,i64 0,i64 0],i64 (ku c f p l)])
theorem axt{c:Cs}(hr:im c.r){f:Fl}(hf:kq f)(p:Pn)(l:List Wd)(G:List aP):aX F 75 [cs c,fl f,pn p,iK l] G=some (OS c f p l,G) :=
 bL rfl rfl (by
  generalize hW:OS c f p l=W;unfold OS at hW;have h0:=Wc hr hf p l [];have h2:=Wk hr hf p l [];unfold CG at h2;by_cases h1:ku c f p l=0
  case neg =>
   rw[av h1]at h2;rw[av h1]at hW;simp +contextual (disch:=omega) [-getElem?_pos,-List.length_eq_zero_iff,-Int.natCast_eq_zero,wrap64,SZ,h2,h1];exact hW
  rw[ON h1]at h0;rw[aK h1]at hW h2;obtain⟨_,aEj,_⟩:=G7 h1;have hlen:=Kx (c:=c) (f:=f) (p:=p) (l:=l);have hP:∀i,oE c f p l (i+1)=oE c f p l i+(nth l i).w*(jj c f p (nth l i)).p:=fun i=>rfl;have hS:∀i,qA c f p l (i+1)=qA c f p l i+(nth l i).w*(jj c f p (nth l i)).t:=fun i=>rfl;simp +contextual (disch:=omega) [-getElem?_pos,-List.length_eq_zero_iff,-Int.natCast_eq_zero,wrap64,SZ,h0,h1,h2]
  refine go_loop (fun i:Nat=>apb (iK l) (.slice none 4 ((iB c f p l).map Ws.row)) l.length i [z0,z0,z0] [i64 (nD c f p l l.length),i64 (-oE c f p l i),i64 (qA c f p l i)] G) (fun i=>i≤l.length) (fun i=>l.length-i) 0 rfl (by simp[oE,qA,dv,hlen]) (by omega) ?_
  intro i hi;have b:=Kw h1 hi;simp +contextual (disch:=omega) [-getElem?_pos,-List.length_eq_zero_iff,-Int.natCast_eq_zero,wrap64,abB];refine bB (fun h=>?_) (fun h=>?_)
  ·have h:i<l.length:=by omega
   have b1:=Wh h1 h;have b2:=Kw h1 (show i+1≤l.length by omega)
   have tL:=OR (c:=c) (f:=f) (p:=p) (l:=l) h;have hP:=hP i;have hS:=hS i;have bI:i<(iB c f p l).length:=by omega
   have e:-oE c f p l (i+1) = -oE c f p l i-(nth l i).w*(jj c f p (nth l i)).p:=by omega
   generalize jj c f p (nth l i)=x at *;simp +contextual (disch:=omega) [-getElem?_pos,-List.length_eq_zero_iff,-Int.natCast_eq_zero,wrap64,aY (l:=l),aY (l:=iB c f p l),tL];exact bu (i+1) (by simp[e,hS]) (by omega) (by omega)
  ·obtain rfl:i=l.length:=by omega
   exact hW)
noncomputable def nE(c:Cs)(f:Fl)(l:List Wd)(p:Pn):Int×Int×Int:=(nD c f p l l.length,oE c f p l l.length,qA c f p l l.length)
def wF(x y:Int×Int×Int):Prop:=x.1<y.1∨x.1=y.1∧(y.2.1<x.2.1∨y.2.1=x.2.1∧x.2.2<y.2.2)
instance {x y:Int×Int×Int}:Decidable (wF x y):=by unfold wF;infer_instance
def Kz(r:Nat→Int×Int×Int):Nat→Nat
 |0=>0
 |k+1=>if k=0∨wF (r k) (r (Kz r k)) then k else Kz r k
abbrev EA(x:Int×Int×Int):List Int:=[x.1,-x.2.1,x.2.2]
theorem cm3{x y:Int×Int×Int}:gy (EA x) (EA y)<0↔wF x y:=by
 obtain⟨a,b,c⟩:=x;obtain⟨d,e,f⟩:=y;simp only[EA,gy,wF]
 repeat' split
 all_goals omega
abbrev KA(l:List Pn):V:=.slice none 2 (l.map Pn.row)
instance:Inhabited Pn:=⟨⟨0,[]⟩⟩
noncomputable def CH(c:Cs)(f:Fl)(ps:List Pn)(l:List Wd):Int:=if ps.length=0 then 9 else if 16<ps.length then 10 else du (fun i=>ku c f (nth ps i) l) ps.length 0
noncomputable def qc(c:Cs)(f:Fl)(ps:List Pn)(l:List Wd):Nat→Nat:=Kz fun i=>nE c f l (nth ps i)
noncomputable def A9(c:Cs)(f:Fl)(ps:List Pn)(l:List Wd):V:=.tuple (if CH c f ps l=0 then [i64 (qc c f ps l ps.length),i64 0] else [i64 0,i64 (CH c f ps l)])
noncomputable def ky(c:Cs)(f:Fl)(ps:List Pn)(l:List Wd)(i:Nat):Int×Int×Int:=if i=0 then (0,0,0) else nE c f l (nth ps (qc c f ps l i))
theorem ah2{c:Cs}{f:Fl}{ps:List Pn}{l:List Wd}{i:Nat}:qc c f ps l (i+1)=if i=0∨wF (nE c f l (nth ps i)) (nE c f l (nth ps (qc c f ps l i))) then i else qc c f ps l i:=rfl
theorem Wl{c:Cs}(hr:im c.r){f:Fl}(hf:kq f)(ps:List Pn)(l:List Wd)(G:List aP):aX F 35 [cs c,fl f,KA ps,iK l] G=some (A9 c f ps l,G) :=
 bL rfl rfl (by
  generalize hW:A9 c f ps l=W;unfold A9 CH at hW;by_cases h1:ps.length=0
  ·simp only[aK h1,av (show ¬ (9:Int)=0 by omega)]at hW
   simp +contextual (disch:=omega) [-getElem?_pos,-List.length_eq_zero_iff,-Int.natCast_eq_zero,wrap64,MJ,h1];exact hW
  simp only[av h1]at hW;have ed:¬ (ps.length:Int)=0:=by omega
  by_cases h2:16<ps.length
  ·have iz:(16:Int)<ps.length:=by omega
   simp only[aK h2,av (show ¬ (10:Int)=0 by omega)]at hW
   simp +contextual (disch:=omega) [-getElem?_pos,-List.length_eq_zero_iff,-Int.natCast_eq_zero,wrap64,MJ,ed,iz];exact hW
  simp only[av h2]at hW;have iz:¬ (16:Int)<ps.length:=by omega
  simp +contextual (disch:=omega) [-getElem?_pos,-List.length_eq_zero_iff,-Int.natCast_eq_zero,wrap64,MJ,ed,iz];refine go_loop (fun i:Nat=>an8 (iK l) (qc c f ps l i) (KA ps) ps.length i c.row f.row [i64 (ky c f ps l i).1,i64 (-(ky c f ps l i).2.1),i64 (ky c f ps l i).2.2] G)
   (fun i=>i≤ps.length∧(.tuple (if du (fun i=>ku c f (nth ps i) l) (ps.length-i) i=0 then [i64 (qc c f ps l ps.length),i64 0] else [i64 0,i64 (du (fun i=>ku c f (nth ps i) l) (ps.length-i) i)]):V)=W) (fun i=>ps.length-i) 0 rfl (by simp[qc,Kz,ky]) ⟨by omega,hW⟩ ?_
  rintro i ⟨hi,hq⟩;simp +contextual (disch:=omega) [-getElem?_pos,-List.length_eq_zero_iff,-Int.natCast_eq_zero,wrap64,aaS];refine bB (fun h=>?_) (fun h=>?_)
  ·have h:i<ps.length:=by omega
   rw[jq h]at hq;have h0:=axt hr hf (nth ps i) l [];unfold OS at h0;by_cases h3:ku c f (nth ps i) l=0
   case neg =>
    rw[av h3]at h0;simp only[av h3]at hq;simp +contextual (disch:=omega) [-getElem?_pos,-List.length_eq_zero_iff,-Int.natCast_eq_zero,wrap64,aY (l:=ps),h0,h3];exact hq
   rw[aK h3]at h0;simp only[aK h3]at hq;have fm:=ah2 (c:=c) (f:=f) (ps:=ps) (l:=l) (i:=i);have EB:ky c f ps l (i+1)=nE c f l (nth ps (qc c f ps l (i+1))):=by rw[ky,av (by omega)]
   by_cases h4:i=0
   ·subst h4
    rw[aK (.inl rfl)]at fm;simp +contextual (disch:=omega) [-getElem?_pos,-List.length_eq_zero_iff,-Int.natCast_eq_zero,wrap64,aY (l:=ps),h0,h3,Wi];exact bu 1 (by simp[fm,EB,nE]) ⟨by omega,hq⟩ (by omega)
   ·have rA:¬ (i:Int)=0:=by omega
    have hZ:ky c f ps l i=nE c f l (nth ps (qc c f ps l i)):=by rw[ky,av h4]
    have nX:=aeO (EA (nE c f l (nth ps i))) (EA (ky c f ps l i)) (by simp) []
    have ah3:=cm3 (x:=nE c f l (nth ps i)) (y:=ky c f ps l i);rw[←hZ]at fm;by_cases h5:wF (nE c f l (nth ps i)) (ky c f ps l i)
    ·rw[aK (.inr h5)]at fm
     have h6:=ah3.2 h5;generalize gy _ _=L at nX h6;simp only[EA,nE,ints,oH,Bf]at nX;simp +contextual (disch:=omega) [-getElem?_pos,-List.length_eq_zero_iff,-Int.natCast_eq_zero,wrap64,aY (l:=ps),h0,h3,rA,nX,h6,Wi,ah1];exact bu (i+1) (by simp[EB,fm,nE]) ⟨by omega,hq⟩ (by omega)
    ·rw[av (fun g=>g.elim h4 h5)]at fm
     have h6:¬ _:=fun g=>h5 (ah3.1 g);generalize gy _ _=L at nX h6;simp only[EA,nE,ints,oH,Bf]at nX;simp +contextual (disch:=omega) [-getElem?_pos,-List.length_eq_zero_iff,-Int.natCast_eq_zero,wrap64,aY (l:=ps),h0,h3,rA,nX,h6,Wi,ah1];exact bu (i+1) (by simp[EB,fm,hZ]) ⟨by omega,hq⟩ (by omega)
  ·obtain rfl:i=ps.length:=by omega
   rw[lC]at hq;simpa using hq)
def EC(l:List Wd)(n:Int):Prop:=sE l n=0→∀i,i<l.length→∀k,k<(nth l i).s.length→(nth (nth l i).s k).a.length≤1000∧(nth (nth l i).s k).b.length≤1000
noncomputable def KC(c:Cs)(f:Fl)(p:Pn)(l:List Wd):V :=
 .tuple (if ku c f p l=0 then [i64 (nD c f p l l.length),i64 (ur l l.length),i64 (oE c f p l l.length),i64 (qA c f p l l.length),i64 0] else [i64 0,i64 0,i64 0,i64 0,i64 (ku c f p l)])
set_option maxHeartbeats 1000000 in
theorem ah4{c:Cs}(hr:im c.r){f:Fl}(hf:kq f)(p:Pn)(l:List Wd)(hs:EC l p.l.length)(G:List aP):aX F 73 [cs c,fl f,pn p,iK l] G=some (KC c f p l,G) :=
 bL rfl rfl (by
  generalize hW:KC c f p l=W;unfold KC at hW;have h0:=ahX hr hf p l hs [];by_cases h1:ku c f p l=0
  case neg =>
   rw[Wb h1]at h0;rw[av h1]at hW;simp +contextual (disch:=omega) [-getElem?_pos,-List.length_eq_zero_iff,-Int.natCast_eq_zero,wrap64,SY,h0,h1];exact hW
  rw[ON h1]at h0;rw[aK h1]at hW;obtain⟨_,_,h3⟩:=G7 h1;have hlen:=Kx (c:=c) (f:=f) (p:=p) (l:=l);have hA:∀i,ur l (i+1)=ur l i+(nth l i).w:=fun i=>rfl;have hR:∀i,nD c f p l (i+1)=nD c f p l i+if bd c (jj c f p (nth l i))=true then (nth l i).w else 0:=fun i=>rfl
  have hP:∀i,oE c f p l (i+1)=oE c f p l i+(nth l i).w*(jj c f p (nth l i)).p:=fun i=>rfl;have hS:∀i,qA c f p l (i+1)=qA c f p l i+(nth l i).w*(jj c f p (nth l i)).t:=fun i=>rfl;simp +contextual (disch:=omega) [-getElem?_pos,-List.length_eq_zero_iff,-Int.natCast_eq_zero,wrap64,SY,h0,h1];refine go_loop (fun i:Nat=>ao7 (iK l) (nD c f p l i) (ur l i) (oE c f p l i) (qA c f p l i) (.slice none 4 ((iB c f p l).map Ws.row)) l.length i c.row G) (fun i=>i≤l.length) (fun i=>l.length-i) 0 rfl (by simp[nD,ur,oE,qA,dv,hlen]) (by omega) ?_
  intro i hi;have b:=Kw h1 hi;simp +contextual (disch:=omega) [-getElem?_pos,-List.length_eq_zero_iff,-Int.natCast_eq_zero,wrap64,aby];refine bB (fun h=>?_) (fun h=>?_)
  ·have h:i<l.length:=by omega
   have b1:=Wh h1 h;have b2:=Kw h1 (show i+1≤l.length by omega)
   have tL:=OR (c:=c) (f:=f) (p:=p) (l:=l) h;have GU:=Wj (h3 i h).2;have GI:=(CE (h3 i h).2).s;have hA:=hA i;have hR:=hR i;have hP:=hP i;have hS:=hS i;have bI:i<(iB c f p l).length:=by omega
   generalize jj c f p (nth l i)=x at *;simp +contextual (disch:=omega) [-getElem?_pos,-List.length_eq_zero_iff,-Int.natCast_eq_zero,wrap64,aY (l:=iB c f p l),tL];have yF:(decide (0<x.o) || ((c.s.drop 0).zip (x.h.drop 0)).any (fun y=>decide (zD y.1.d.r y.1.d.r.s<y.2)))=bd c x:=by
    rw[Bool.or_comm];rfl
   generalize bd c x=B at *;refine go_loop (fun y:Nat×Bool=>ao2 (iK l) (nD c f p l i) (ur l i) (oE c f p l i) (qA c f p l i) i y.2 (.slice none 4 ((iB c f p l).map Ws.row)) l.length i (ru c.s) c.s.length y.1 c.row x.row G)
    (fun y=>y.1≤c.s.length∧(y.2 || ((c.s.drop y.1).zip (x.h.drop y.1)).any (fun y=>decide (zD y.1.d.r y.1.d.r.s<y.2)))=B) (fun y=>c.s.length-y.1) (0,decide (0<x.o)) rfl (by simp) ⟨by omega,yF⟩ ?_
   rintro⟨j,b⟩ ⟨hj,hq⟩;simp only at hj hq;simp +contextual (disch:=omega) [-getElem?_pos,-List.length_eq_zero_iff,-Int.natCast_eq_zero,wrap64,abx];refine bB (fun h4=>?_) (fun h4=>?_)
   ·have h4:j<c.s.length:=by omega
    rw[m7 h4,m7 (l:=x.h) (by omega),Pv,CM]at hq
    have hV:=aw6 (nth c.s j).d.r (nth c.s j).d.r.s [];cases b with
    |true =>
     simp +contextual (disch:=omega) [-getElem?_pos,-List.length_eq_zero_iff,-Int.natCast_eq_zero,wrap64,aY (l:=c.s),hV,dA (l:=x.h)];exact bu (j+1,true) (by simp) ⟨by omega,by simpa using hq⟩ (by simp;omega)
    |false =>
     simp +contextual (disch:=omega) [-getElem?_pos,-List.length_eq_zero_iff,-Int.natCast_eq_zero,wrap64,aY (l:=c.s),hV,dA (l:=x.h)];exact bu (j+1,decide (zD (nth c.s j).d.r (nth c.s j).d.r.s<nth x.h j)) (by simp) ⟨by omega,by simpa using hq⟩ (by simp;omega)
   ·obtain rfl:j=c.s.length:=by omega
    rw[rJ,WR,zH,EH]at hq;subst hq;cases b with
    |true =>
     rw[aK rfl]at hR;simp +contextual (disch:=omega) [-getElem?_pos,-List.length_eq_zero_iff,-Int.natCast_eq_zero,wrap64,aY (l:=l)];exact bu (i+1) (by simp[hA,hR,hP,hS]) (by omega) (by omega)
    |false =>
     rw[av (by simp)]at hR
     simp +contextual (disch:=omega) [-getElem?_pos,-List.length_eq_zero_iff,-Int.natCast_eq_zero,wrap64,aY (l:=l)];exact bu (i+1) (by simp[hA,hR,hP,hS]) (by omega) (by omega)
  ·obtain rfl:i=l.length:=by omega
   exact hW)
theorem axv{c:Cs}(hr:im c.r){f:Fl}(hf:kq f)(p:Pn)(l:List Wd)(hs:EC l p.l.length)(G:List aP):aX F 33 [cs c,fl f,pn p,iK l] G=some (CG c f p l,G) :=
 bL rfl rfl (by
  have h0:=ah4 hr hf p l hs [];unfold KC at h0;unfold CG;by_cases h1:ku c f p l=0
  ·rw[aK h1]at h0 ⊢
   simp +contextual (disch:=omega) [-getElem?_pos,-List.length_eq_zero_iff,-Int.natCast_eq_zero,wrap64,SE,h0]
  ·rw[av h1]at h0 ⊢
   simp +contextual (disch:=omega) [-getElem?_pos,-List.length_eq_zero_iff,-Int.natCast_eq_zero,wrap64,SE,h0])
set_option maxHeartbeats 1000000 in
theorem axw{c:Cs}(hr:im c.r){f:Fl}(hf:kq f)(ps:List Pn)(l:List Wd)(hs:∀i,i<ps.length→EC l (nth ps i).l.length)(G:List aP):aX F 36 [cs c,fl f,KA ps,iK l] G=some (A9 c f ps l,G) :=
 bL rfl rfl (by
  generalize hW:A9 c f ps l=W;unfold A9 CH at hW;by_cases h1:ps.length=0
  ·simp only[aK h1,av (show ¬ (9:Int)=0 by omega)]at hW
   simp +contextual (disch:=omega) [-getElem?_pos,-List.length_eq_zero_iff,-Int.natCast_eq_zero,wrap64,MK,h1];exact hW
  simp only[av h1]at hW;have ed:¬ (ps.length:Int)=0:=by omega
  by_cases h2:16<ps.length
  ·have iz:(16:Int)<ps.length:=by omega
   simp only[aK h2,av (show ¬ (10:Int)=0 by omega)]at hW
   simp +contextual (disch:=omega) [-getElem?_pos,-List.length_eq_zero_iff,-Int.natCast_eq_zero,wrap64,MK,ed,iz];exact hW
  simp only[av h2]at hW;have iz:¬ (16:Int)<ps.length:=by omega
  simp +contextual (disch:=omega) [-getElem?_pos,-List.length_eq_zero_iff,-Int.natCast_eq_zero,wrap64,MK,ed,iz];refine go_loop (fun i:Nat=>aoa (iK l) (qc c f ps l i) (ky c f ps l i).1 (ky c f ps l i).2.1 (ky c f ps l i).2.2 (KA ps) ps.length i c.row f.row G)
   (fun i=>i≤ps.length∧(.tuple (if du (fun i=>ku c f (nth ps i) l) (ps.length-i) i=0 then [i64 (qc c f ps l ps.length),i64 0] else [i64 0,i64 (du (fun i=>ku c f (nth ps i) l) (ps.length-i) i)]):V)=W) (fun i=>ps.length-i) 0 rfl (by simp[qc,Kz,ky]) ⟨by omega,hW⟩ ?_
  rintro i ⟨hi,hq⟩;simp +contextual (disch:=omega) [-getElem?_pos,-List.length_eq_zero_iff,-Int.natCast_eq_zero,wrap64,aaT];refine bB (fun h=>?_) (fun h=>?_)
  ·have h:i<ps.length:=by omega
   rw[jq h]at hq;have h0:=ah4 hr hf (nth ps i) l (hs i h) [];unfold KC at h0;by_cases h3:ku c f (nth ps i) l=0
   case neg =>
    rw[av h3]at h0;simp only[av h3]at hq;simp +contextual (disch:=omega) [-getElem?_pos,-List.length_eq_zero_iff,-Int.natCast_eq_zero,wrap64,aY (l:=ps),h0,h3];exact hq
   rw[aK h3]at h0;simp only[aK h3]at hq;have fm:=ah2 (c:=c) (f:=f) (ps:=ps) (l:=l) (i:=i);have EB:ky c f ps l (i+1)=nE c f l (nth ps (qc c f ps l (i+1))):=by rw[ky,av (by omega)]
   by_cases h4:i=0
   ·subst h4
    rw[aK (.inl rfl)]at fm;simp +contextual (disch:=omega) [-getElem?_pos,-List.length_eq_zero_iff,-Int.natCast_eq_zero,wrap64,aY (l:=ps),h0,h3];exact bu 1 (by simp[fm,EB,nE]) ⟨by omega,hq⟩ (by omega)
   ·have rA:¬ (i:Int)=0:=by omega
    have hZ:ky c f ps l i=nE c f l (nth ps (qc c f ps l i)):=by rw[ky,av h4]
    have xF:wF (nE c f l (nth ps i)) (ky c f ps l i)↔nD c f (nth ps i) l l.length<(ky c f ps l i).1∨nD c f (nth ps i) l l.length=(ky c f ps l i).1∧((ky c f ps l i).2.1<oE c f (nth ps i) l l.length∨(ky c f ps l i).2.1=oE c f (nth ps i) l l.length∧qA c f (nth ps i) l l.length<(ky c f ps l i).2.2):=Iff.rfl;rw[←hZ]at fm;have hZi:nE c f l (nth ps i)=(nD c f (nth ps i) l l.length,oE c f (nth ps i) l l.length,qA c f (nth ps i) l l.length):=rfl;have yes:wF (nE c f l (nth ps i)) (ky c f ps l i)→qc c f ps l (i+1)=i∧ky c f ps l (i+1)=nE c f l (nth ps i):=fun g=>by
     rw[aK (.inr g)]at fm;exact⟨fm,by rw[EB,fm]⟩
    have no:¬ wF (nE c f l (nth ps i)) (ky c f ps l i)→qc c f ps l (i+1)=qc c f ps l i∧ky c f ps l (i+1)=ky c f ps l i:=fun g=>by
     rw[av (fun q=>q.elim h4 g)]at fm;exact⟨fm,by rw[EB,fm,hZ]⟩
    rw[xF]at yes no;rw[hZi]at yes;generalize ky c f ps l i=z at *;generalize nD c f (nth ps i) l l.length=a at *;generalize oE c f (nth ps i) l l.length=b at *;generalize qA c f (nth ps i) l l.length=d at *;by_cases g1:a<z.1
    ·obtain⟨e1,e2⟩:=yes (.inl g1)
     simp +contextual (disch:=omega) [-getElem?_pos,-List.length_eq_zero_iff,-Int.natCast_eq_zero,wrap64,aY (l:=ps),h0,h3,rA,g1];exact bu (i+1) (by simp[e1,e2]) ⟨by omega,hq⟩ (by omega)
    by_cases g2:a=z.1
    case neg =>
     obtain⟨e1,e2⟩:=no (by omega)
     simp +contextual (disch:=omega) [-getElem?_pos,-List.length_eq_zero_iff,-Int.natCast_eq_zero,wrap64,aY (l:=ps),h0,h3,rA,g1,g2];exact bu (i+1) (by simp[e1,e2]) ⟨by omega,hq⟩ (by omega)
    by_cases g3:z.2.1<b
    ·obtain⟨e1,e2⟩:=yes (by omega)
     simp +contextual (disch:=omega) [-getElem?_pos,-List.length_eq_zero_iff,-Int.natCast_eq_zero,wrap64,aY (l:=ps),h0,h3,rA,g1,g2,g3];exact bu (i+1) (by simp[e1,e2,g2]) ⟨by omega,hq⟩ (by omega)
    by_cases g4:b=z.2.1
    case neg =>
     obtain⟨e1,e2⟩:=no (by omega)
     simp +contextual (disch:=omega) [-getElem?_pos,-List.length_eq_zero_iff,-Int.natCast_eq_zero,wrap64,aY (l:=ps),h0,h3,rA,g1,g2,g3,g4];exact bu (i+1) (by simp[e1,e2]) ⟨by omega,hq⟩ (by omega)
    by_cases g5:d<z.2.2
    ·obtain⟨e1,e2⟩:=yes (by omega)
     simp +contextual (disch:=omega) [-getElem?_pos,-List.length_eq_zero_iff,-Int.natCast_eq_zero,wrap64,aY (l:=ps),h0,h3,rA,g1,g2,g3,g4,g5];exact bu (i+1) (by simp[e1,e2,g2,g4]) ⟨by omega,hq⟩ (by omega)
    ·obtain⟨e1,e2⟩:=no (by omega)
     simp +contextual (disch:=omega) [-getElem?_pos,-List.length_eq_zero_iff,-Int.natCast_eq_zero,wrap64,aY (l:=ps),h0,h3,rA,g1,g2,g3,g4,g5];exact bu (i+1) (by simp[e1,e2]) ⟨by omega,hq⟩ (by omega)
  ·obtain rfl:i=ps.length:=by omega
   rw[lC]at hq;simpa using hq)
theorem ah6(l:List Ws)(hl:l.length≤1000)(hw:∀i,i<l.length→(nth l i).h.length≤1000)(G:List aP):aX F 34 [.slice none 4 (l.map Ws.row),.slice none 4 (l.map Ws.row)] G=some (.bool true,G) :=
 bL rfl rfl (by
  simp +contextual (disch:=omega) [-getElem?_pos,-List.length_eq_zero_iff,-Int.natCast_eq_zero,wrap64,aaR];refine go_loop (fun k:Nat=>an6 (.slice none 4 (l.map Ws.row)) (.slice none 4 (l.map Ws.row)) l.length k G) (fun k=>k≤l.length) (fun k=>l.length-k) 0 rfl (by simp) (by omega) ?_
  intro k hk;simp +contextual (disch:=omega) [-getElem?_pos,-List.length_eq_zero_iff,-Int.natCast_eq_zero,wrap64,aaQ];refine bB (fun h=>?_) (fun h=>?_)
  ·have h:k<l.length:=by omega
   have h1:=aw7 (nth l k).h (by have:=hw k h;omega) []
   simp +contextual (disch:=omega) [-getElem?_pos,-List.length_eq_zero_iff,-Int.natCast_eq_zero,wrap64,aY (l:=l),h1];exact bu (k+1) (by simp) (by omega) (by omega)
  ·trivial)
end Go.Proofs.YtcelmhaoipbdiaaGreat

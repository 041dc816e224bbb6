/- Parts of the proof. -/
import Derived.Test.YtmppfkgfnnebeaaGreatDoorDg
import Derived.Test.YtmppfkgfnnebeaaGreatDoorDe
import Derived.Test.YtmppfkgfnnebeaaGreatDoorDa
namespace Go.Proofs.YtmppfkgfnnebeaaGreatDoor
set_option linter.all false
open Go.Vm
attribute [local simp] lZ l7 lX lY
structure Pn where
 f:Int
 l:List (List Int)
abbrev Pn.row(p:Pn):List V:=[i64 p.f,lH p.l]
abbrev pn(p:Pn):V:=.agg p.row
noncomputable def JX(c:Cs)(l:List (List Int))(i:Nat):Int:=if (nth l i).length=c.s.length then (if fa (nth l i) 1073741824 then 0 else 1) else 51
noncomputable def wA(c:Cs)(p:Pn):Int:=if e8 c≠0 then e8 c else if 0≤p.f∧p.f≤16777216 then (if 96<p.l.length then 10 else dH (JX c p.l) p.l.length 0) else 6
theorem avA(n:Int)(G:List aS):aZ F 64 [i64 n] G=some (.bool (!decide (0≤n∧n≤1073741824)),G) :=
 bM rfl rfl (by
  simp[wrap64,aai];by_cases h1:n<0
  ·simp[wrap64,h1,show ¬ 0≤n by omega]
  ·simp[wrap64,h1,show 0≤n by omega]
   by_cases h2:n≤1073741824
   ·simp[wrap64,h2,show ¬ 1073741824<n by omega]
   ·simp[wrap64,h2,show 1073741824<n by omega])
theorem avB(c:Cs)(hr:lh c.r)(p:Pn)(G:List aS):aZ F 21 [cs c,pn p] G=some (i64 (wA c p),G) :=
 bM rfl rfl (by
  obtain⟨t,l⟩:=p;generalize hW:wA c ⟨t,l⟩=W;unfold wA at hW;simp only at hW;have h0:=Uy c hr;by_cases h1:e8 c=0
  case neg =>
   rw[aM h1]at hW;simp (disch:=omega) [-getElem?_pos,wrap64,Fv,h0,h1];exact hW
  rw[ay (by omega)]at hW
  have hs:=(qe h1).s;by_cases h2:0≤t∧t≤16777216
  case neg =>
   rw[ay h2]at hW;rcases (by omega:t<0∨(¬t<0∧16777216<t)) with a | ⟨a,b⟩
   ·simp (disch:=omega) [-getElem?_pos,wrap64,Fv,h0,h1,a]
    exact hW
   ·simp (disch:=omega) [-getElem?_pos,wrap64,Fv,h0,h1,a,b]
    exact hW
  rw[aM h2]at hW;have a:¬ t<0:=by omega
  have b:¬ 16777216<t:=by omega
  by_cases h3:96<l.length
  ·rw[aM h3]at hW
   have ja:(96:Int)<l.length:=by omega
   simp (disch:=omega) [-getElem?_pos,wrap64,Fv,h0,h1,a,b,ja];exact hW
  rw[ay h3]at hW;have ja:¬ (96:Int)<l.length:=by omega
  simp (disch:=omega) [-getElem?_pos,wrap64,Fv,h0,h1,a,b,ja];refine go_loop (fun i:Nat=>ame (lH l) l.length i c.row G) (fun i=>i≤l.length∧dH (JX c l) (l.length-i) i=W) (fun i=>l.length-i) 0 rfl (by simp) ⟨by omega,hW⟩ ?_
  rintro i ⟨hi,hq⟩;simp (disch:=omega) [-getElem?_pos,wrap64,ZP];refine bT (fun h5=>?_) (fun h5=>?_)
  ·have h5:i<l.length:=by omega
   rw[kZ h5]at hq;unfold JX at hq;by_cases h6:(nth l i).length=c.s.length
   ·rw[aM h6]at hq
    have hc:=Np (nth l i) (by omega) (fun n => !decide (0≤n∧n≤1073741824)) 64 G (fun n=>avA n G)
    rw[agf]at hc;by_cases h7:fa (nth l i) 1073741824
    ·rw[aM h7]at hq
     simp (disch:=omega) [-getElem?_pos,wrap64,bf (l:=l),h6,hc,h7];exact bP (i+1) (by simp) ⟨by omega,hq⟩ (by omega)
    ·rw[ay h7]at hq
     simp (disch:=omega) [-getElem?_pos,wrap64,bf (l:=l),h6,hc,h7];exact hq
   ·rw[ay h6]at hq
    have iz:¬ ((nth l i).length:Int)=c.s.length:=by omega
    simp (disch:=omega) [-getElem?_pos,wrap64,bf (l:=l),iz];exact hq
  ·obtain rfl:i=l.length:=by omega
   rw[mO]at hq;exact hq)
noncomputable def om(c:Cs)(f:Fl)(p:Pn)(n:Nat):Int:=if wA c p≠0 then wA c p else if eR c f then (if p.f=f.t then (if n=p.l.length then 0 else 3) else 6) else 50
def jd(p:Pn)(l:List Sp):List Sp:=(List.range l.length).map fun i=>⟨(nth l i).a,(nth l i).b,nth p.l i⟩
theorem NX{p:Pn}{l:List Sp}:(jd p l).length=l.length:=by simp[jd]
theorem agJ{p:Pn}{l:List Sp}{i:Nat}(h:i<l.length):nth (jd p l) i=⟨(nth l i).a,(nth l i).b,nth p.l i⟩:=by
 simp[nth,jd,List.getD,h]
noncomputable def B8(c:Cs)(f:Fl)(p:Pn)(l:List Sp):Int:=if om c f p l.length≠0 then om c f p l.length else jc c f (jd p l)
noncomputable def NY(t:Option Nat)(c:Cs)(f:Fl)(p:Pn)(l:List Sp):V:=if om c f p l.length=0 then mD t c f (jd p l) else crX t (om c f p l.length)
structure Bg(c:Cs)(f:Fl)(p:Pn)(n:Nat):Prop where
 c0:e8 c=0
 f0:eR c f
 t:p.f=f.t
 len:n=p.l.length
 di:n≤96
 e:∀i,i<n→(nth p.l i).length=c.s.length∧fa (nth p.l i) 1073741824
theorem NZ{c:Cs}{f:Fl}{p:Pn}{n:Nat}(h:om c f p n=0):Bg c f p n:=by
 unfold om at h;split at h
 ·rename_i h1;exact absurd h h1
 ·rename_i h1
  have h1:=g7 h1;unfold wA at h1;split at h1
  ·rename_i h2;exact absurd h1 h2
  ·rename_i h2
   split at h1
   ·split at h1
    ·cases h1
    ·split at h
     ·split at h
      ·split at h
       ·rename_i h3 h4 h5 h6
        refine⟨g7 h2,h4,h5,h6,by omega,fun i hi=>?_⟩
        have h7:=sK h1 i (by omega) (by omega)
        unfold JX at h7;split at h7
        ·split at h7
         ·exact⟨by assumption,by assumption⟩
         ·cases h7
        ·cases h7
       ·cases h
      ·cases h
     ·cases h
   ·cases h1
theorem Bg.rd{c:Cs}{f:Fl}{p:Pn}{n:Nat}(h:Bg c f p n):kO c f=0:=by
 unfold kO;rw[ay (by have:=h.c0;omega),aM h.f0]
abbrev Gr(c:Cs)(p:Pn)(g:V):V:=.agg [i64 c.r.n,od c.r.l,tX c.s,i64 p.f,lH p.l,g]
theorem avC(f:Fl)(l:List Int)(G:List aS):aZ F 68 [fl f,ints l] G=some (ints l,G) :=
 bM rfl rfl (by simp[wrap64,aal])
theorem af7(c:Cs)(hr:lh c.r){f:Fl}(hf:oe f)(p:Pn)(q:FuncId)(cap:List V)(l:List Sp)(G:List aS):aZ F 42 [Gr c p (.fn q cap),fl f,oj l] G=some (i64 (om c f p l.length),G) :=
 bM rfl rfl (by
  have h0:=avB c hr p;have h1:=aur c hr f hf;unfold om;by_cases a:wA c p=0
  case neg=>simp (disch:=omega) [-getElem?_pos,wrap64,Fw,h0,a]
  have hc:e8 c=0:=by
   unfold wA at a;split at a
   ·rename_i h;exact absurd a h
   ·rename_i h;exact g7 h
  by_cases b:eR c f
  case neg=>simp (disch:=omega) [-getElem?_pos,wrap64,Fw,h0,a,h1,b]
  by_cases d:p.f=f.t
  case neg=>simp (disch:=omega) [-getElem?_pos,wrap64,Fw,h0,a,h1,hc,b,d]
  obtain⟨t,pl⟩:=p;obtain rfl:t=f.t:=d;by_cases e:l.length=pl.length
  ·simp (disch:=omega) [-getElem?_pos,wrap64,Fw,h0,a,h1,hc,b,e]
  ·have e':¬ (l.length:Int)=pl.length:=by omega
   simp (disch:=omega) [-getElem?_pos,wrap64,Fw,h0,a,h1,hc,b,e,e'])
theorem avD{c:Cs}{f:Fl}{p:Pn}{l:List Sp}(hb:Bg c f p l.length){M:List (List Int)}:jc c f (jd ⟨p.f,M⟩ l)=dH (fun k=>gp c (fu c f (jd ⟨p.f,M⟩ l) k) (nth (jd ⟨p.f,M⟩ l) k)) l.length 0:=by
 have:=hb.di;unfold jc;rw[ay (by have:=hb.rd;omega),NX,ay (by omega)]
set_option maxRecDepth 100000 in
set_option maxHeartbeats 1000000 in
theorem U0{c:Cs}(hr:lh c.r){f:Fl}(hf:oe f){p:Pn}{l:List Sp}(hb:Bg c f p l.length){M:List (List Int)}{fn:FuncId}{cap:List V}{tk:Option Nat}(htk:tk=none∨tk=some 0){Gs:Nat→List aS}
  (hs:∀k,k<l.length→(∀j,j<k→gp c (fu c f (jd ⟨p.f,M⟩ l) j) (nth (jd ⟨p.f,M⟩ l) j)=0)→aZ F fn (fl (fu c f (jd ⟨p.f,M⟩ l) k)::ints (nth p.l k)::cap) (Gs k)=some (.slice tk 1 ((nth M k).map fun n=>[i64 n]),Gs (k+1))) :
  ∃m,aZ F 44 [Gr c p (.fn fn cap),fl f,oj l] (Gs 0)=some (mD (some 0) c f (jd ⟨p.f,M⟩ l),Gs m)∧(jc c f (jd ⟨p.f,M⟩ l)=0→m=l.length):=by
 suffices h:∀Q:V→List aS→Prop,(∀m,(jc c f (jd ⟨p.f,M⟩ l)=0→m=l.length)→Q (mD (some 0) c f (jd ⟨p.f,M⟩ l)) (Gs m))→gA (aZ F) 44 [Gr c p (.fn fn cap),fl f,oj l] (Gs 0) Q by
  obtain⟨_,G',h,m,rfl,rfl,hm⟩:=h (fun v G'=>∃m,v=mD (some 0) c f (jd ⟨p.f,M⟩ l)∧G'=Gs m∧(jc c f (jd ⟨p.f,M⟩ l)=0→m=l.length)) fun m hm=>⟨m,rfl,rfl,hm⟩;exact⟨m,h,hm⟩
 intro Q hQ;refine gM rfl rfl ?_;have z1:=hb.c0;have z2:=hb.f0;have cv:=qe z1;have kv:=oh cv.k;have hn:=hb.len;have hm:=hb.di;obtain⟨G0,yo⟩:=agF hr hf [] (by simp)
 rw[mD,aM (by unfold jc;rw[ay (by have:=hb.rd;omega)];rfl)]at yo
 simp only[fu,tc,wz,List.range_zero,GW]at yo;rw[show oj []=.slice none 3 [] from rfl]at yo;have e:=avD hb (M:=M);generalize hq:jd ⟨p.f,M⟩ l=q at e hQ hs;have pP:q.length=l.length:=by rw[←hq,NX]
 simp (disch:=omega) [-getElem?_pos,wrap64,Rx,yo];refine go_loop (fun k:Nat=>amv (oj l) (.slice (some 1070) 3 ((wz c f q k).map Ps.row)) (lH p.l) p.l.length k [i64 c.r.n,od c.r.l,tX c.s,i64 p.f,lH p.l,.fn fn cap] (fu c f q k).row [z0,.cb,.cb] k (Gs k))
  (fun k=>k≤l.length∧dH (fun k=>gp c (fu c f q k) (nth q k)) (l.length-k) k=jc c f q∧∀j,j<k→gp c (fu c f q j) (nth q j)=0) (fun k=>l.length-k) 0 rfl (by simp[fu,wz]) ⟨by omega,e.symm,by omega⟩ ?_
 rintro k ⟨hk,hE,hj⟩;have Ut:=Gq z1 z2 k hj;simp (disch:=omega) [-getElem?_pos,wrap64,Rw];refine bT (fun h5=>?_) (fun h5=>?_)
 ·have h5:k<l.length:=by omega
  rw[kZ h5]at hE;have D3:nth q k=⟨(nth l k).a,(nth l k).b,nth M k⟩:=by rw[←hq,agJ h5]
  obtain⟨t1,G1,hP⟩:=auW hr (UU cv.k Ut) (nth q k);rw[xJ,UX z1 Ut]at hP;have hs:=hs k h5 hj;rw[D3]at hP;by_cases h6:gp c (fu c f q k) (nth q k)=0
  ·rw[←D3,aM h6,D3]at hP
   simp only[aM h6]at hE;have Ew:(∀j,j<k+1→gp c (fu c f q j) (nth q j)=0):=fun j yr=>by
    by_cases g:j=k
    ·rw[g];exact h6
    ·exact hj j (by omega)
   rcases htk with rfl|rfl <;>
   ·simp (disch:=omega) [-getElem?_pos,wrap64,bf (l:=l),bf (l:=p.l),hs,hP]
    exact bP (k+1) (by simp[agD,fu,NU,D3]) ⟨by omega,hE,Ew⟩ (by omega)
  ·rw[←D3,ay h6,D3]at hP
   simp only[ay h6]at hE;have hQ:=hQ (k+1) (fun g=>by omega)
   rw[mD,ay (by omega),← hE]at hQ
   rw[D3]at h6 hQ;rcases htk with rfl|rfl <;>
   ·simp (disch:=omega) [-getElem?_pos,wrap64,bf (l:=l),bf (l:=p.l),hs,hP,h6]
    exact hQ
 ·obtain rfl:k=l.length:=by omega
  rw[sb]at hE;have hE:0=jc c f q:=hE;have hQ:=hQ l.length fun _=>rfl;rw[mD,aM hE.symm,pP]at hQ;exact hQ
theorem avE{c:Cs}(hr:lh c.r){f:Fl}(hf:oe f){p:Pn}{l:List Sp}(hb:Bg c f p l.length)(G:List aS) :
  aZ F 44 [Gr c p (.fn 68 []),fl f,oj l] G=some (mD (some 0) c f (jd p l),G):=by
 obtain⟨m,h,_⟩:=U0 hr hf hb (M:=p.l) (.inl rfl) (Gs:=fun _=>G) fun k _ _=>avC _ _ G;exact h
theorem avF{c:Cs}(hr:lh c.r){f:Fl}(hf:oe f)(p:Pn)(l:List Sp)(G:List aS):∃X,(B8 c f p l=0→X=NY (some 0) c f p l) ∧
  (B8 c f p l≠0→∃t u,X=.tuple [.agg [i64 0,.slice t 4 [],.slice t 1 []],.slice u 3 [],i64 (B8 c f p l)])∧aZ F 28 [cs c,fl f,pn p,oj l] G=some (X,G):=by
 have h0:=af7 c hr hf p 68 [] l;unfold NY B8;by_cases hz:om c f p l.length=0
 ·have h1:=avE hr hf (NZ hz)
  simp only[aM hz,ay (show ¬ om c f p l.length≠0 from fun g=>g hz)];by_cases hy:jc c f (jd p l)=0
  ·refine⟨_,fun _=>rfl,fun h=>absurd hy h,?_⟩
   simp only[mD,aM hy]at h1 ⊢;exact bM rfl rfl (by simp[wrap64,L7,h0,hz,h1])
  ·refine⟨_,fun h=>absurd h hy,fun _=>⟨none,some 0,rfl⟩,?_⟩
   simp only[mD,ay hy]at h1 ⊢;exact bM rfl rfl (by simp[wrap64,L7,h0,hz,h1])
 ·simp only[ay hz,aM (show om c f p l.length≠0 from hz)]
  exact⟨_,fun _=>rfl,fun _=>⟨some 0,some 0,rfl⟩,bM rfl rfl (by simp[wrap64,L7,h0,hz])⟩
end Go.Proofs.YtmppfkgfnnebeaaGreatDoor
namespace Go.Proofs.YtmppfkgfnnebeaaGreatDoor
set_option linter.all false
open Go.Vm Go.Chs
abbrev agL(c:Chs.Ch)(w:Int):V:=.agg [i64 (mA c w),i64 c.lo,i64 c.hi,.slice none 2 (oM c.ys)]
structure Gu(l:List Cd)(day level:Int):Prop where
 n:l.length≤19
 e:tJ l=0
 d:0≤day∧day≤364
 v:0≤level∧level≤16777216
theorem Gu.ask{l:List Cd}{day level:Int}(h:Gu l day level){q:List Int}(hq:∀n,n∈q→0≤n∧n≤1073741824):AD l day level q=0:=by
 unfold AD;rw[ay (fun g=>g h.e),aM];simp only[bS,g8];exact⟨⟨Dz.2 h.d,Dz.2 h.v⟩,fun n hn=>Dz.2 (hq n hn)⟩
theorem avG{l:List Cd}{day level before lo hi w:Int}(h:Gu l day level)(hb:0≤before∧before≤1073741824)(hw:0≤w∧w≤1073741824)(JK:0≤lo∧lo≤hi∧hi≤1073741824)(G:List aS) :
  aZ F 124 [g5 l,i64 day,i64 level,i64 before,.agg [i64 lo,i64 hi],i64 w] G=some (i64 0,G) :=
 bM rfl rfl (by
  have hz:AD l day level [before,w,lo,hi]=0:=h.ask fun n hn=>by
   simp only[jB,Kq,or_false]at hn;omega
  have w1:∀G,aZ F 154 [g5 l,i64 day,i64 level,.slice none 1 [[i64 before],[i64 w],[i64 lo],[i64 hi]]] G=some (i64 0,G):=hz ▸ TY l day level [before,w,lo,hi] (by simp)
  have h1:¬ hi<lo:=by omega
  simp[wrap64,aa8,w1,h1])
theorem avH{l:List Cd}{day level before lo hi w:Int}(h:Gu l day level)(hb:0≤before∧before≤1073741824)(hw:0≤w∧w≤1073741824)(JK:0≤lo∧lo≤hi∧hi≤1073741824)(G:List aS) :
  aZ F 82 [g5 l,i64 day,i64 level,i64 before,.agg [i64 lo,i64 hi],i64 w] G=some (.tuple [agL (Nq l day level before lo hi) w,i64 0],G) :=
 bM rfl rfl (by
  obtain⟨G',w2⟩:=atA h.n (w:=w) (h.ask (q:=[]) (by simp)) hb JK.2.1
  simp[wrap64,aau,avG h hb hw JK,w2])
def rW(t:Int):Int:=(t.tdiv 96).tmod 365
theorem avI{t:Int}(h:0≤t):0≤rW t∧rW t≤364:=by
 unfold rW;have h1:0≤t.tdiv 96:=xU h (by omega)
 have h2:=Kh (365:Int) h1;have h3:=Kg (t.tdiv 96) (b:=(365:Int)) (by omega)
 omega
noncomputable def rY(c:Cs)(f:Fl)(i:Nat):Int:=lvl (nth c.s i).d (nth f.d i)
theorem avJ{c:Cs}{f:Fl}{i:Nat}:0≤rY c f i∧rY c f i≤16777216:=by
 unfold rY lvl;split
 ·rename_i h;exact afs (F7 h).1.r _
 ·omega
theorem agM{c:Cs}{f:Fl}{i:Nat}(hf:eR c f)(hi:i<c.s.length)(G:List aS) :
  aZ F 81 [cs c,fl f,i64 i] G=some (.tuple [i64 (rW f.t),i64 (rY c f i)],G) :=
 bM rfl rfl (by
  have hd:i<f.d.length:=by rw[hf.2.1.1];exact hi
  have h1:=aq7 f.t;rw[Dz.2 hf.1]at h1;simp only[if_true]at h1;have h2:=Nh (nth c.s i).d (nth f.d i);simp (disch:=omega) [-getElem?_pos,wrap64,aat,h1,h2,bf (l:=c.s),bf (l:=f.d)];exact⟨rfl,rfl⟩)
noncomputable def pI(c:Cs)(f:Fl)(i:Nat)(l:List Cd):Chs.Ch:=Nq l (rW f.t) (rY c f i) (nth f.d i).rel 0 1073741824
structure s9(l:List Cd):Prop where
 n:l.length≤19
 e:tJ l=0
theorem s9.at_{l:List Cd}(h:s9 l){c:Cs}{f:Fl}{i:Nat}(hf:eR c f):Gu l (rW f.t) (rY c f i):=⟨h.n,h.e,avI hf.1.1,avJ⟩
theorem agN{c:Cs}{f:Fl}{i:Nat}{l:List Cd}{w:Int}(hf:eR c f)(hi:i<c.s.length)(h:s9 l)(hw:0≤w∧w≤1073741824)(G:List aS) :
  aZ F 41 [cs c,fl f,i64 i,g5 l,i64 w] G=some (agL (pI c f i l) w,G) :=
 bM rfl rfl (by
  have hd:i<f.d.length:=by rw[hf.2.1.1];exact hi
  have hr:0≤(nth f.d i).rel∧(nth f.d i).rel≤1073741824:=by
   have:=(hf.2.1.2 i hi).2;exact this.2.1
  have h1:=agM hf hi;have h2:=avH (h.at_ (c:=c) (i:=i) hf) hr hw (lo:=0) (hi:=1073741824) (by omega)
  simp (disch:=omega) [-getElem?_pos,wrap64,Z5,h1,h2,bf (l:=f.d)];exact⟨rfl,rfl,rfl,rfl⟩)
noncomputable def B9(l:List Cd)(day level before r:Int):List Nat:=(lg l day level).filter fun i => !keeps (qd l before) r i
def ta(l:List Nat):List (List V):=l.map fun k:Nat=>[i64 (k:Int)]
@[simp] theorem aCZ{l:List Nat}:(ta l).length=l.length:=by simp[ta]
theorem agO{l:List Nat}{i:Nat}:ta l++[[i64 (i:Int)]]=ta (l++[i]):=by simp[ta]
end Go.Proofs.YtmppfkgfnnebeaaGreatDoor
namespace Go.Proofs.YtmppfkgfnnebeaaGreatDoor
set_option linter.all false
open Go.Vm Go.Chs
abbrev r0(L:List (List Cd)):V:=.slice none 1 (L.map fun l=>[g5 l])
structure Vi where
 t:Int
 s:Int
 c:Int
 b:Int
 deriving Inhabited,DecidableEq
abbrev Vi.row(v:Vi):List V:=[i64 v.t,i64 v.s,i64 v.c,i64 v.b]
abbrev ub(l:List Vi):V:=.slice none 4 (l.map Vi.row)
def xK(t:Int)(i:Nat)(ys:List (Nat×Int)):List Vi:=ys.map fun p=>⟨t,i,p.1,p.2⟩
noncomputable def mE(c:Cs)(f:Fl)(L:List (List Cd))(T:List Int)(n:Nat):List Int:=(List.range n).map fun i=>mA (pI c f i (nth L i)) (nth T i)
noncomputable def r7(c:Cs)(f:Fl)(L:List (List Cd)):Nat→List Vi
 |0=>[]
 |n+1=>r7 c f L n++xK f.t n (pI c f n (nth L n)).ys
theorem avM{c:Cs}{f:Fl}{L:List (List Cd)}{T:List Int}{n:Nat}:mE c f L T (n+1)=mE c f L T n++[mA (pI c f n (nth L n)) (nth T n)]:=by simp[mE,AX]
@[simp] theorem U3{c:Cs}{f:Fl}{L:List (List Cd)}{T:List Int}{n:Nat}:(mE c f L T n).length=n:=by simp[mE]
theorem agR{b:Nat→Int×Int}:∀{A:List Nat} {c:Chs.Ch},(nq b A c).ys.length≤c.ys.length+A.length
 |[],c=>by simp[nq]
 |i::A,c=>by
  have h:=agR (b:=b) (A:=A) (c:=sO b c i);have h1:(sO b c i).ys.length≤c.ys.length+1:=by
   unfold sO;split
   ·simp
   split
   ·simp
   ·simp
  show(nq b A (sO b c i)).ys.length≤_;simp only[u4];omega
theorem U4{l:List Cd}{day level:Int}:(lg l day level).length≤l.length:=by
 have:(lg l day level).length≤(kK (iW l) (List.range l.length)).length:=u5 _ _;rw[Jg]at this;exact this
theorem U5{c:Cs}{f:Fl}{i:Nat}{l:List Cd}(h:s9 l):(pI c f i l).ys.length≤19:=by
 have h1:=agR (b:=qd l (nth f.d i).rel) (A:=lg l (rW f.t) (rY c f i)) (c:=sQ 0 1073741824);have h2:=U4 (l:=l) (day:=rW f.t) (level:=rY c f i);have h3:=h.n;simp only[sQ,tc]at h1;show(nq _ _ _).ys.length≤19;simp only[sQ];omega
theorem U6{c:Cs}{f:Fl}{L:List (List Cd)}(h:∀i,i<L.length→s9 (nth L i)):∀n,n≤L.length→(r7 c f L n).length≤19*n
 |0,_=>by simp[r7]
 |n+1,hn=>by
  have h1:=U6 (c:=c) (f:=f) h n (by omega)
  have h2:=U5 (c:=c) (f:=f) (i:=n) (h n (by omega))
  simp only[r7,m9,xK,wF];omega
abbrev mG(c:Cs)(L:List (List Cd))(t:Int)(M:List (List Int))(V:List Vi):List aS:=[.cells c.row,.cells [r0 L],.cells [i64 t,.eF 1 (M.map fun p=>[ints p])],.cells [.eF 4 (V.map Vi.row)]]
set_option maxHeartbeats 1000000 in
theorem avN{c:Cs}{f:Fl}{L:List (List Cd)}{T:List Int}(hf:eR c f)(hT:T.length=c.s.length)(hL:L.length=c.s.length)(h6:c.s.length≤6)(ho:∀i,i<L.length→s9 (nth L i))
  (hb:∀i,i<T.length→0≤nth T i∧nth T i≤1073741824) (t:Int) {M:List (List Int)} {V:List Vi} (hM:M.length≤1000) (hV:V.length≤1000000) :
  aZ F 40 [fl f,ints T,.bm 0 0,.bm 1 0,.bm 3 0,.bm 2 0] (mG c L t M V)=some (xI (mE c f L T T.length),mG c L t (M++[mE c f L T T.length]) (V++r7 c f L T.length)) :=
 bM rfl rfl (by
  simp (disch:=omega) [-getElem?_pos,wrap64,Z4];refine go_loop (fun i:Nat=>amt (.bm 0 0) (.bm 1 0) (.bm 3 0) (.bm 2 0) (.slice (some 1054) 1 ((mE c f L T i).map fun n=>[i64 n])) (ints T) T.length i f.row i (mG c L t M (V++r7 c f L i))) (fun i=>i≤T.length) (fun i=>T.length-i) 0 rfl (by simp[mE,r7]) (by omega) ?_
  rintro i hi;simp (disch:=omega) [-getElem?_pos,wrap64,Z3];refine bT (fun h=>?_) (fun h=>?_)
  ·have h:i<T.length:=by omega
   have h1:=agN hf (i:=i) (by omega) (ho i (by omega)) (hb i h)
   have hv:=U6 (c:=c) (f:=f) ho i (by omega)
   have hy:=U5 (c:=c) (f:=f) (i:=i) (ho i (by omega))
   have hM1:i+1≤17592186044416:=by omega
   have hs:mE c f L T i++[mA (pI c f i (nth L i)) (nth T i)]=mE c f L T (i+1):=avM.symm;have qU:r7 c f L (i+1)=r7 c f L i++xK f.t i (pI c f i (nth L i)).ys:=rfl;simp (disch:=omega) [-getElem?_pos,wrap64,ei (l:=T),bf (l:=L),h1];generalize pI c f i (nth L i)=C at *
   refine go_loop (fun p:Nat×List Vi=>amr (.bm 0 0) (.bm 1 0) (.bm 3 0) (.bm 2 0) (.slice (some 1054) 1 ((mE c f L T i).map fun n=>[i64 n])) i (ints T) T.length i (.slice none 2 (oM C.ys)) C.ys.length p.1 f.row [i64 (mA C (nth T i)),i64 C.lo,i64 C.hi,.slice none 2 (oM C.ys)] i (mG c L t M p.2)) (fun p=>p.1≤C.ys.length∧p.2=V++r7 c f L i++xK f.t i (C.ys.take p.1)) (fun p=>C.ys.length-p.1) (0,V++r7 c f L i) rfl (by simp) ⟨by simp,by simp[xK]⟩ ?_
   rintro⟨j,W⟩ ⟨hj,hW⟩;simp only at hj hW;simp (disch:=omega) [-getElem?_pos,wrap64,Z2];refine bT (fun g=>?_) (fun g=>?_)
   ·have g:j<C.ys.length:=by omega
    have Nt:W.length≤4398046511103:=by rw[hW];simp[xK];omega
    have Gx:(oM C.ys)[j]?=some [i64 (((nth C.ys j).1:Nat):Int),i64 (nth C.ys j).2]:=by simp[oM,nth,List.getD,g]
    have Pe:xK f.t i (C.ys.take (j+1))=xK f.t i (C.ys.take j)++[⟨f.t,i,((nth C.ys j).1:Nat),(nth C.ys j).2⟩]:=by
     rw[xX,show C.ys[j]?=some (nth C.ys j) by simp[nth,List.getD,g]]
     simp[xK]
    simp (disch:=omega) [-getElem?_pos,wrap64,mG,Gx,Nt];exact bP (j+1,W++[⟨f.t,i,((nth C.ys j).1:Nat),(nth C.ys j).2⟩]) (by simp) ⟨by simp;omega,by simp[Pe,hW]⟩ (by simp;omega)
   ·obtain rfl:j=C.ys.length:=by omega
    have hi9:i≤17592186044415:=by omega
    rw[na]at hW;subst hW;simp (disch:=omega) [-getElem?_pos,wrap64,mG,hi9];exact bP (i+1) (by simp[←hs,qU]) (by omega) (by omega)
  ·obtain rfl:i=T.length:=by omega
   have hM9:M.length≤5864062014804:=by omega
   simp (disch:=omega) [-getElem?_pos,wrap64,mG,hM9])
end Go.Proofs.YtmppfkgfnnebeaaGreatDoor
namespace Go.Proofs.YtmppfkgfnnebeaaGreatDoor
set_option linter.all false
open Go.Vm Go.Chs
def pJ(ys:List (Nat×Int))(k:Nat):Nat:=ys.findIdx fun p=>decide (p.1=k)
theorem agS:∀{ys:List (Nat×Int)} {k:Nat},Aq ys k=if pJ ys k=ys.length then -2 else (nth ys (pJ ys k)).2
 |[],k=>by simp[Aq,pJ]
 |(i,y)::ys,k=>by
  unfold Aq pJ;rw[List.findIdx_cons];by_cases e:i=k
  ·simp[e,nth]
  ·have h:=agS (ys:=ys) (k:=k)
   unfold pJ at h;simp only[e,decide_false,eD,if_false,u4,h,Nat.add_right_cancel_iff];rfl
noncomputable def brk(c:Cs)(f:Fl)(i:Nat)(l:List Cd)(r:Int):List Vi:=(B9 l (rW f.t) (rY c f i) (nth f.d i).rel r).map fun k:Nat=>⟨f.t,i,k,Aq (pI c f i l).ys k⟩
end Go.Proofs.YtmppfkgfnnebeaaGreatDoor
namespace Go.Proofs.YtmppfkgfnnebeaaGreatDoor
set_option linter.all false
open Go.Vm Go.Chs
end Go.Proofs.YtmppfkgfnnebeaaGreatDoor
namespace Go.Proofs.YtmppfkgfnnebeaaGreatDoor
set_option linter.all false
open Go.Vm
end Go.Proofs.YtmppfkgfnnebeaaGreatDoor
namespace Go.Proofs.YtmppfkgfnnebeaaGreatDoor
set_option linter.all false
open Go.Vm
attribute [local simp] lZ l7 lX lY
def xL(c:Cs)(L:List (List Cd)):Int:=if L.length=c.s.length then dH (fun i=>tJ (nth L i)) L.length 0 else 3
theorem agW(c:Cs)(L:List (List Cd))(hl:L.length≤1000)(G:List aS):aZ F 43 [cs c,r0 L] G=some (i64 (xL c L),G) :=
 bM rfl rfl (by
  generalize hW:xL c L=W;unfold xL at hW;by_cases h1:L.length=c.s.length
  case neg =>
   rw[ay h1]at hW;have jm:¬ (L.length:Int)=c.s.length:=by omega
   simp (disch:=omega) [-getElem?_pos,wrap64,L8,jm];exact hW
  rw[aM h1]at hW;simp (disch:=omega) [-getElem?_pos,wrap64,L8,h1];refine go_loop (fun i:Nat=>amu (r0 L) L.length i G) (fun i=>i≤L.length∧dH (fun i=>tJ (nth L i)) (L.length-i) i=W) (fun i=>L.length-i) 0 rfl (by simp[h1]) ⟨by omega,hW⟩ ?_
  rintro i ⟨hi,hq⟩;simp (disch:=omega) [-getElem?_pos,wrap64,Ru];refine bT (fun h3=>?_) (fun h3=>?_)
  ·have h3:i<L.length:=by omega
   rw[kZ h3]at hq;have h4:=adF (nth L i);by_cases h5:tJ (nth L i)=0
   ·rw[aM h5]at hq
    have uN:(tJ (nth L i) != 0)=false:=by simp[h5]
    simp (disch:=omega) [-getElem?_pos,wrap64,bf (l:=L),h4,uN];exact bP (i+1) (by simp) ⟨by omega,hq⟩ (by omega)
   ·rw[ay h5]at hq
    have uN:(tJ (nth L i) != 0)=true:=by simp[h5]
    simp (disch:=omega) [-getElem?_pos,wrap64,bf (l:=L),h4,uN];exact hq
  ·obtain rfl:i=L.length:=by omega
   rw[mO]at hq;exact hq)
theorem U9{c:Cs}{L:List (List Cd)}(h:xL c L=0)(mT:∀i,i<L.length→(nth L i).length≤19):L.length=c.s.length∧∀i,i<L.length→s9 (nth L i):=by
 unfold xL at h;split at h
 ·rename_i g
  exact⟨g,fun i hi=>⟨mT i hi,sK h i (by omega) (by omega)⟩⟩
 ·cases h
noncomputable def r8(c:Cs)(f:Fl)(L:List (List Cd))(p:Pn)(l:List Sp):Nat→Fl
 |0=>f
 |k+1=>tZ c (r8 c f L p l k) ⟨(nth l k).a,(nth l k).b,mE c (r8 c f L p l k) L (nth p.l k) c.s.length⟩
noncomputable def je(c:Cs)(f:Fl)(L:List (List Cd))(p:Pn)(l:List Sp)(n:Nat):List (List Int):=(List.range n).map fun k=>mE c (r8 c f L p l k) L (nth p.l k) c.s.length
noncomputable def nE(c:Cs)(f:Fl)(L:List (List Cd))(p:Pn)(l:List Sp):Nat→List Vi
 |0=>[]
 |k+1=>nE c f L p l k++r7 c (r8 c f L p l k) L c.s.length
noncomputable abbrev mS(c:Cs)(f:Fl)(L:List (List Cd))(p:Pn)(l:List Sp):List Sp:=jd ⟨p.f,je c f L p l l.length⟩ l
theorem Va{c:Cs}{f:Fl}{L:List (List Cd)}{p:Pn}{l:List Sp}{n:Nat}:(je c f L p l n).length=n:=by simp[je]
theorem D4{c:Cs}{f:Fl}{L:List (List Cd)}{p:Pn}{l:List Sp}{n k:Nat}(h:k<n):nth (je c f L p l n) k=mE c (r8 c f L p l k) L (nth p.l k) c.s.length:=by simp[nth,je,List.getD,h]
theorem avV{c:Cs}{f:Fl}{L:List (List Cd)}{p:Pn}{l:List Sp}{n:Nat}:je c f L p l (n+1)=je c f L p l n++[mE c (r8 c f L p l n) L (nth p.l n) c.s.length]:=by simp[je,AX]
theorem JY{c:Cs}{f:Fl}{L:List (List Cd)}{p:Pn}{l:List Sp}:∀k,k≤l.length→fu c f (mS c f L p l) k=r8 c f L p l k
 |0,_=>rfl
 |k+1,h=>by
  show tZ c (fu c f _ k) _=_;rw[JY k (by omega),agJ (by omega),D4 (by omega)]
  rfl
theorem Vb{c:Cs}{f:Fl}{L:List (List Cd)}{p:Pn}{l:List Sp}(hL:L.length=c.s.length)(h:∀i,i<L.length→s9 (nth L i)):∀k,(nE c f L p l k).length≤19*c.s.length*k
 |0=>by simp[nE]
 |k+1=>by
  have h1:=Vb (f:=f) (p:=p) (l:=l) hL h k;have h2:=U6 (c:=c) (f:=r8 c f L p l k) h c.s.length (by omega)
  simp only[nE,m9,Nat.mul_add,El];omega
noncomputable def xM(c:Cs)(f:Fl)(L:List (List Cd))(p:Pn)(l:List Sp):Int :=
 if om c f p l.length≠0 then om c f p l.length else if xL c L≠0 then xL c L else jc c f (mS c f L p l)
theorem Ve{c:Cs}(h:e8 c=0):c.s.length≤6:=by
 unfold e8 at h;split at h
 ·rename_i g;exact absurd h g
 split at h
 ·cases h
 split at h
 ·cases h
 ·omega
theorem avW{c:Cs}(hr:lh c.r){f:Fl}(hf:oe f){p:Pn}{l:List Sp}(hb:Bg c f p l.length){L:List (List Cd)}(hL:L.length=c.s.length)(ho:∀i,i<L.length→s9 (nth L i)) :
  ∃m,aZ F 44 [Gr c p (.fn 40 [.bm 0 0,.bm 1 0,.bm 3 0,.bm 2 0]),fl f,oj l] [.cells c.row,.cells [r0 L],.cells [i64 p.f,.eF 1 []],.cells [.eF 4 []]]=some (mD (some 0) c f (mS c f L p l),mG c L p.f (je c f L p l m) (nE c f L p l m))∧(jc c f (mS c f L p l)=0→m=l.length):=by
 have h6:=Ve hb.c0;have hm:=hb.di;refine U0 hr hf hb (M:=je c f L p l l.length) (.inr rfl) (Gs:=fun k=>mG c L p.f (je c f L p l k) (nE c f L p l k)) fun k hk hj=>?_;have jk:=Gq hb.c0 hb.f0 k hj;rw[show jd ⟨p.f,je c f L p l l.length⟩ l=mS c f L p l from rfl,JY k (by omega)]at jk ⊢
 have hT:=(hb.e k hk).1;have hv:=Vb (f:=f) (p:=p) (l:=l) hL ho k;have h:=avN jk (T:=nth p.l k) hT hL h6 ho (fun i hi=>by have:=(hb.e k hk).2 i hi;omega) p.f (M:=je c f L p l k) (V:=nE c f L p l k) (by rw[Va];omega) (by
  have:19*c.s.length*k≤19*6*96:=Ek (by omega) (by omega)
  omega)
 rw[hT]at h;rw[D4 hk,avV];exact h
theorem Vg{c:Cs}(hr:lh c.r){f:Fl}(hf:oe f)(p:Pn)(l:List Sp){L:List (List Cd)}(hl:L.length≤1000)(mT:∀i,i<L.length→(nth L i).length≤19) :
  (xM c f L p l=0→∃G',aZ F 14 [cs c,fl f,r0 L,pn p,oj l] []=some (.tuple [.agg [i64 p.f,lH (je c f L p l l.length)],ub (nE c f L p l l.length),i64 0],G')) ∧
  (xM c f L p l≠0→∃t u G',aZ F 14 [cs c,fl f,r0 L,pn p,oj l] []=some (.tuple [.agg [i64 0,.slice t 1 []],.slice u 4 [],i64 (xM c f L p l)],G')):=by
 have h0:=af7 c hr hf p 40 [.bm 0 0,.bm 1 0,.bm 3 0,.bm 2 0] l;have h1:=agW c L hl;unfold xM;by_cases hz:om c f p l.length=0
 case neg =>
  refine⟨fun h=>?_,fun h=>?_⟩
  ·rw[aM hz]at h;exact absurd h hz
  ·rw[aM hz]
   have Db:(om c f p l.length != 0)=true:=by simp[hz]
   exact⟨some 0,some 0,_,bM (G':=[.cells c.row,.cells [r0 L],.cells [i64 p.f,.eF 1 []],.cells [.eF 4 []]]) rfl rfl (by simp[wrap64,Fu,h0,Db])⟩
 rw[ay (fun g=>g hz)];by_cases hw:xL c L=0
 case neg =>
  refine⟨fun h=>?_,fun h=>?_⟩
  ·rw[aM hw]at h;exact absurd h hw
  ·rw[aM hw]
   have hw':(xL c L != 0)=true:=by simp[hw]
   exact⟨some 0,some 0,_,bM (G':=[.cells c.row,.cells [r0 L],.cells [i64 p.f,.eF 1 []],.cells [.eF 4 []]]) rfl rfl (by simp[wrap64,Fu,h0,hz,h1,hw'])⟩
 rw[ay (fun g=>g hw)];obtain⟨hL,ho⟩:=U9 hw mT;obtain⟨m,h2,hm⟩:=avW hr hf (NZ hz) hL ho;refine⟨fun h=>?_,fun h=>?_⟩
 ·rw[mD,aM h]at h2
  rw[hm h]at h2;exact⟨_,bM (G':=mG c L p.f (je c f L p l l.length) (nE c f L p l l.length)) rfl rfl (by simp[wrap64,Fu,mG,h0,hz,h1,hw,h2])⟩
 ·rw[mD,ay h]at h2
  have h':(jc c f (mS c f L p l) != 0)=true:=by simp[h]
  exact⟨some 0,some 0,_,bM (G':=mG c L p.f (je c f L p l m) (nE c f L p l m)) rfl rfl (by simp[wrap64,Fu,mG,h0,hz,h1,hw,h2,h'])⟩
end Go.Proofs.YtmppfkgfnnebeaaGreatDoor
namespace Go.Proofs.YtmppfkgfnnebeaaGreatDoor
set_option linter.all false
open Go.Vm
def agY(s p:List Int)(i:Nat):Int :=
 if (i=0∧nth s i≠0)∨(0<i∧nth s i≤nth s (i-1)) then 4
 else if 95<nth s i∨nth p i<0∨10000<nth p i then 1 else 0
def agZ(s p:List Int):Nat→Nat→Int
 |0,_=>0
 |m+1,i=>if agY s p i=0 then agZ s p m (i+1) else agY s p i
def mc(s p:List Int):Int :=
 if s.length=0∨s.length≠p.length then 3 else if 96<s.length then 10 else agZ s p s.length 0
end Go.Proofs.YtmppfkgfnnebeaaGreatDoor
namespace Go.Proofs.YtmppfkgfnnebeaaGreatDoor
set_option linter.all false
open Go.Vm
def li(s:List Int)(k:Int):Nat→Nat
 |0=>0
 |m+1=>if nth s m≤k then m else li s k m
def day(s:List Int)(j:Nat):Int:=li s j s.length
def pr(s p:List Int)(t:Int):Int:=nth p (li s (t.tmod 96) s.length)
structure Valid(s p:List Int):Prop where
 pos:0<s.length
 len:s.length=p.length
 kH:s.length≤96
 zero:nth s 0=0
 up:∀i,i+1<s.length→nth s i<nth s (i+1)
 top:∀i,i<s.length→0≤nth s i∧nth s i≤95
 aDb:∀i,i<s.length→0≤nth p i∧nth p i≤10000
theorem aDc{s:List Int}{k:Int}{m:Nat}:li s k (m+1)=if nth s m≤k then m else li s k m:=rfl
end Go.Proofs.YtmppfkgfnnebeaaGreatDoor
namespace Go.Proofs.YtmppfkgfnnebeaaGreatDoor
set_option linter.all false
open Go.Vm
instance:Inhabited Ps:=⟨⟨[],[],[]⟩⟩
def JZ(q:Int):List Dr→Int→Option Int
 |[],n=>some n
 |r::rs,n=>if r.pow<0∨8589934592<r.pow then none else JZ q rs (IntKind.i64.wrap (n+IntKind.i64.wrap (r.pow*q)))
def Vh(s p:List Int)(t:Int):List Ps→Int→Option Int
 |[],n=>some n
 |x::l,n=>match JZ (pr s p t) x.re n with
  |none=>none
  |some n=>Vh s p (t+1) l n
def big(l:List Ps):Bool:=l.any fun x=>decide (6<x.re.length)
theorem aDd{l:List Ps}{i:Nat}(h:i<l.length):big (l.drop i)=(decide (6<(nth l i).re.length) || big (l.drop (i+1))):=by
 rw[sN h];rfl
theorem aDe{s p:List Int}{t n:Int}{l:List Ps}{i:Nat}(h:i<l.length):Vh s p t (l.drop i) n=match JZ (pr s p t) (nth l i).re n with
  |none=>none
  |some n=>Vh s p (t+1) (l.drop (i+1)) n:=by
 rw[sN h];rfl
theorem aDf{q n:Int}{l:List Dr}{i:Nat}(h:i<l.length):JZ q (l.drop i) n=if (nth l i).pow<0∨8589934592<(nth l i).pow then none else JZ q (l.drop (i+1)) (IntKind.i64.wrap (n+IntKind.i64.wrap ((nth l i).pow*q))):=by
 rw[sN h];rfl
end Go.Proofs.YtmppfkgfnnebeaaGreatDoor
namespace Go.Proofs.YtmppfkgfnnebeaaGreatDoor
set_option linter.all false
open Go.Vm
end Go.Proofs.YtmppfkgfnnebeaaGreatDoor
namespace Go.Proofs.YtmppfkgfnnebeaaGreatDoor
set_option linter.all false
open Go.Vm
attribute [local simp] lZ l7 lX lY
abbrev Vj(l:List (List Int)):V:=.slice (some 0) 1 (l.map fun p=>[ints p])
theorem av0{l:List Int}{k:Nat}(hd:c9 l k){c:Cs}(hn:1≤c.r.n∧c.r.n≤40)(hs:c.s.length≤10)(t:Int){n:Nat}(hm:n≤1000) :
  ∃p k',aZ F 11 [.bm 0 0,cs c,i64 t,i64 n] [dk l k]=some (.agg [i64 t,Vj p],[dk l k'])∧c9 l k'∧p.length=n:=by
 suffices h:∀Q:V→List aS→Prop,(∀p k',c9 l k'→p.length=n→Q (.agg [i64 t,Vj p]) [dk l k'])→gA (aZ F) 11 [.bm 0 0,cs c,i64 t,i64 n] [dk l k] Q by
  obtain⟨_,_,h,q,k',rfl,rfl,h1⟩:=h (fun v G=>∃p k',v=.agg [i64 t,Vj p]∧G=[dk l k']∧c9 l k'∧p.length=n) fun p k' a b=>⟨p,k',rfl,rfl,a,b⟩;exact⟨q,k',h,h1⟩
 intro Q hQ;refine gM rfl rfl ?_;simp (disch:=omega) [wrap64,ZG];refine go_loop (fun y:List (List Int)×Nat=>alU (.bm 0 0) n y.1.length c.row [z0,.cb] [i64 t,.slice (some 1022) 1 (y.1.map fun p=>[ints p])] y.1.length [dk l y.2]) (fun y=>y.1.length≤n∧c9 l y.2) (fun y=>n-y.1.length) ([],k) rfl (by simp) ⟨by simp,hd⟩ ?_
 rintro⟨p,k⟩ ⟨h1,hd⟩;simp only at h1 hd;simp (disch:=omega) [wrap64,ZF];refine bT (fun h5=>?_) (fun h5=>?_)
 ·obtain⟨q,k2,n2,eZ,hp⟩:=UJ hd (c:=c) hn hs
  simp (disch:=omega) [wrap64,n2];exact bP (p++[q.c],k2) (by simp) ⟨by simp;omega,eZ⟩ (by simp;omega)
 ·obtain e:p.length=n:=by omega
  exact hQ p k hd e
theorem av1{t:Option Nat}{c:Cs}{f:Fl}{p:Pn}{l:List Sp}(h:B8 c f p l=0) :
  NY t c f p l=.tuple [fl (fu c f (jd p l) l.length),.slice t 3 ((wz c f (jd p l) l.length).map Ps.row),i64 0]:=by
 unfold B8 at h;split at h
 ·rename_i h1;exact absurd h h1
 ·rename_i h1
  unfold NY mD;rw[aM (g7 h1),aM h,NX]
end Go.Proofs.YtmppfkgfnnebeaaGreatDoor
namespace Go.Proofs.YtmppfkgfnnebeaaGreatDoor
set_option linter.all false
open Go.Vm
abbrev J0:Rc:=⟨[0,1],1⟩
abbrev kX:Cs:=⟨⟨2,[⟨0,1,J0⟩]⟩,[]⟩
theorem J1:e7 J0=0:=by
 unfold e7;rw[ay (by decide),ay (by decide),aM,aM (by decide)]
 intro i hi;have:i=0∨i=1:=by simp at hi;omega
 rcases this with rfl|rfl<;>decide
theorem av2:jR kX.r=0:=by
 unfold jR;rw[ay (by decide)]
 show(if lE kX.r 0=0 then (0:Int) else lE kX.r 0)=0
 have:lE kX.r 0=0:=by
  unfold lE;simp only;rw[aM (by decide),ay (by decide),ay (by decide)]
  exact J1
 rw[aM this]
theorem ag2:e8 kX=0:=by
 unfold e8;rw[ay (fun g=>g av2),ay (by decide),ay (by decide)]
 rfl
theorem N5:∀p:List Int,p=[]∨p=[7]→iB J0 p:=fun p h=>by
 rcases h with rfl|rfl
 ·exact⟨by decide,by decide,fun i hi=>by simp at hi⟩
 ·refine⟨by decide,by decide,fun i hi=>?_⟩
  have:i=0:=by simp at hi;omega
  subst this;decide
theorem av3:gI J0 [] 7=0:=by
 unfold gI;rw[ay (fun g=>g J1),aM (N5 _ (.inl rfl)),aM];refine⟨by decide,fun i hi=>?_⟩
 have:i=0∨i=1:=by simp at hi;omega
 rcases this with rfl|rfl<;>decide
theorem av4:gI J0 [7] 0=0:=by
 unfold gI;rw[ay (fun g=>g J1),aM (N5 _ (.inr rfl)),aM];refine⟨by decide,fun i hi=>?_⟩
 have:i=0∨i=1:=by simp at hi;omega
 rcases this with rfl|rfl<;>decide
abbrev Gy:Sp:=⟨[7,0],[],[]⟩
abbrev Gz:Sp:=⟨[0,0],[],[]⟩
abbrev GA:Fl:=⟨0,[],[[]]⟩
abbrev GB:Fl:=⟨1,[],[[7]]⟩
theorem av5:eR kX GA:=⟨by decide,⟨rfl,by simp⟩,rfl,fun i hi=>by
 have:i=0:=by simp at hi;omega
 subst this;exact⟨J1,N5 _ (.inl rfl)⟩⟩
theorem av6:eR kX GB:=⟨by decide,⟨rfl,by simp⟩,rfl,fun i hi=>by
 have:i=0:=by simp at hi;omega
 subst this;exact⟨J1,N5 _ (.inr rfl)⟩⟩
theorem Cc(k:Int):lJ kX.s k=none:=rfl
theorem N6:mC kX.r.l ((0:Nat):Int)=some 0:=rfl
theorem N7:mC kX.r.l ((1:Nat):Int)=none:=rfl
theorem ag3:cC kX Gy GA 1=⟨[7,0],[],[[7]],[],[7],[0]⟩:=by
 show vS kX Gy ⟨[7,0],[],[[]],[],[],[]⟩ 0=_;unfold vS vL vD fw;rw[Cc,N6];rfl
theorem aDg:cC kX Gy GA 2=⟨[7,0],[],[[7]],[],[7,0],[0]⟩:=by
 show vS kX Gy (cC kX Gy GA 1) 1=_;rw[ag3];unfold vS vL vD fw;rw[Cc,N7];rfl
theorem ag4:cC kX Gz GB 1=⟨[0,7],[],[[]],[],[0],[7]⟩:=by
 show vS kX Gz ⟨[0,0],[],[[7]],[],[],[]⟩ 0=_;unfold vS vL vD fw;rw[Cc,N6];rfl
theorem aDh:cC kX Gz GB 2=⟨[0,7],[],[[]],[],[0,7],[7]⟩:=by
 show vS kX Gz (cC kX Gz GB 1) 1=_;rw[ag4];unfold vS vL vD fw;rw[Cc,N7];rfl
theorem ag5{l:List Int}(h:∀x∈l,x=0∨x=7):fa l 1073741824:=fun i hi=>by
 have:=h _ (sX hi);omega
theorem aDi:oO kX GA Gy=0:=by
 unfold oO;have hr:kO kX GA=0:=by unfold kO;rw[ay (fun g=>g ag2),aM av5]
 rw[ay (fun g=>g hr)];unfold gp;rw[aM (by decide),aM (ag5 (by simp)),ay (by decide)]
 refine sL fun k _ hk=>?_;have:k=0∨k=1:=by have:kX.r.n.toNat=2:=rfl;omega
 rcases this with rfl|rfl
 ·unfold vE mZ pH fw
  rw[Cc,N6];exact av3
 ·unfold vE mZ pH fw
  rw[ag3,Cc,N7];rfl
theorem aDj:oO kX GB Gz=0:=by
 unfold oO;have hr:kO kX GB=0:=by unfold kO;rw[ay (fun g=>g ag2),aM av6]
 rw[ay (fun g=>g hr)];unfold gp;rw[aM (by decide),aM (ag5 (by simp)),ay (by decide)]
 refine sL fun k _ hk=>?_;have:k=0∨k=1:=by have:kX.r.n.toNat=2:=rfl;omega
 rcases this with rfl|rfl
 ·unfold vE mZ pH fw
  rw[Cc,N6];exact av4
 ·unfold vE mZ pH fw
  rw[ag4,Cc,N7];rfl
abbrev cw:V:=.agg [i64 2,.slice none 4 [[i64 0,i64 1,.slice none 1 [[i64 0],[i64 1]],i64 1]],.slice none 10 []]
end Go.Proofs.YtmppfkgfnnebeaaGreatDoor

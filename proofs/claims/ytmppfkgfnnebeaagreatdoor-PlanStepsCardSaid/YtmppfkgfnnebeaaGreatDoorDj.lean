/- Parts of the proof. -/
import Derived.Test.YtmppfkgfnnebeaaGreatDoorDh
import Derived.Test.YtmppfkgfnnebeaaGreatDoorDi
import Derived.Test.YtmppfkgfnnebeaaGreatDoorDa
namespace Go.Proofs.YtmppfkgfnnebeaaGreatDoor
set_option linter.all false
open Go.Vm Go.Chs
theorem Ob{c:Cs}{f:Fl}{i:Nat}{l:List Cd}(hf:eR c f)(hi:i<c.s.length) :
  Inv (AF (qd l (nth f.d i).rel) (lg l (rW f.t) (rY c f i))) 0 1073741824 (lg l (rW f.t) (rY c f i)) (pI c f i l):=by
 have hr:0≤(nth f.d i).rel∧(nth f.d i).rel≤1073741824:=(hf.2.1.2 i hi).2.2.1;exact afo (fun j hj=>(afm (T3 (r9.1 hj).2) hr).2.1) (by omega)
theorem Vp{c:Cs}{f:Fl}{L:List (List Cd)}{T:List Int}{n i:Nat}(h:i<n):nth (mE c f L T n) i=mA (pI c f i (nth L i)) (nth T i):=by simp[nth,mE,List.getD,h]
theorem awg{c:Cs}{f:Fl}(hf:eR c f){L:List (List Cd)}{T:List Int}{i:Nat}(hi:i<c.s.length):0≤nth (mE c f L T c.s.length) i∧nth (mE c f L T c.s.length) i≤1073741824:=by
 have h:=Ob (l:=nth L i) hf hi;have h1:=Tj h (nth T i);have h2:=h.a;have h3:=h.z;rw[Vp hi];omega
theorem awh{c:Cs}{f:Fl}(hf:eR c f){i:Nat}(hi:i<c.s.length){l:List Cd}{w:Int}:brk c f i l (mA (pI c f i l) w)=xK f.t i (pI c f i l).ys:=by
 have h:=Ob (l:=l) hf hi;have h1:=Tj h w;have hb:=art h h1.1 h1.2;have hn:(lg l (rW f.t) (rY c f i)).Nodup:=ary ad1;have hv:B9 l (rW f.t) (rY c f i) (nth f.d i).rel (mA (pI c f i l) w)=(pI c f i l).ys.map (·.1):=by
  rw[←hb];refine GQ fun j hj=>?_;simp[keeps,AF,hj]
 unfold brk xK;rw[hv,wG]
 conv=>rhs;rw[←arA (arz h hn),wG,wG]
 rfl
structure Mk(c:Cs)(f:Fl)(L:List (List Cd))(p:Pn)(l:List Sp):Prop where
 b:Bg c f p l.length
 w:xL c L=0
 r:jc c f (mS c f L p l)=0
theorem awj{c:Cs}{f:Fl}{L:List (List Cd)}{p:Pn}{l:List Sp}(h:xM c f L p l=0):Mk c f L p l:=by
 unfold xM at h;split at h
 ·rename_i g;exact absurd h g
 split at h
 ·rename_i g;exact absurd h g
 ·rename_i g1 g2
  exact⟨NZ (g7 g1),g7 g2,h⟩
theorem Mk.fl{c:Cs}{f:Fl}{L:List (List Cd)}{p:Pn}{l:List Sp}(h:Mk c f L p l){k:Nat}(hk:k≤l.length):eR c (r8 c f L p l k):=by
 have h1:=(avx h.r).at_ (k:=k) (by rw[NX];exact hk)
 rw[JY k hk]at h1;exact h1
structure Vs(L:List (List Cd))(V:List Vi)(x:Vi):Prop where
 w:∃i a:Nat,x.s=i∧i<L.length∧x.c=a∧a<(nth L i).length∧(x.b = -1∨∃j:Nat,x.b=j∧j<(nth L i).length∧Ord (iW (nth L i)) j a∧∀y∈V,¬ (y.t=x.t∧y.s=x.s∧y.c=x.b))
end Go.Proofs.YtmppfkgfnnebeaaGreatDoor
namespace Go.Proofs.YtmppfkgfnnebeaaGreatDoor
set_option linter.all false
open Go.Vm
attribute [local simp] lZ l7 lX lY
theorem awm{l:List Int}{k:Nat}(hd:c9 l k):∃a b k',aZ F 121 [.bm 0 0] [dk l k]=some (.agg [i64 a,i64 b],[dk l k'])∧c9 l k':=by
 suffices h:∀Q:V→List aS→Prop,(∀a b k',c9 l k'→Q (.agg [i64 a,i64 b]) [dk l k'])→gA (aZ F) 121 [.bm 0 0] [dk l k] Q by
  obtain⟨_,_,h,a,b,k',rfl,rfl,h1⟩:=h (fun v G=>∃a b k',v=.agg [i64 a,i64 b]∧G=[dk l k']∧c9 l k') fun a b k' h=>⟨a,b,k',rfl,rfl,h⟩;exact⟨a,b,k',h,h1⟩
 intro Q hQ;refine gM rfl rfl ?_;obtain⟨m,k1,n1,gR,hm⟩:=fk hd 4 (by omega)
 by_cases h0:m=0
 ·simp[wrap64,Mm,n1,h0]
  exact hQ _ _ _ gR
 by_cases h1:m=1
 ·obtain⟨m2,k2,n2,eZ,_⟩:=fk gR 10 (by omega)
  obtain⟨m3,k3,n3,kI,_⟩:=fk eZ 10 (by omega)
  simp[wrap64,Mm,n1,h0,h1,n2,n3];exact hQ _ _ _ kI
 ·obtain⟨m2,k2,n2,eZ,_⟩:=fk gR 365 (by omega)
  obtain⟨m3,k3,n3,kI,_⟩:=fk eZ 365 (by omega)
  simp[wrap64,Mm,n1,h0,h1,n2,n3];exact hQ _ _ _ kI
theorem awn{l:List Int}{k:Nat}(hd:c9 l k):∃(x:Cd) (k':Nat),aZ F 80 [.bm 0 0] [dk l k]=some (.agg x.row,[dk l k'])∧c9 l k':=by
 suffices h:∀Q:V→List aS→Prop,(∀(x:Cd) k',c9 l k'→Q (.agg x.row) [dk l k'])→gA (aZ F) 80 [.bm 0 0] [dk l k] Q by
  obtain⟨_,_,h,x,k',rfl,rfl,h1⟩:=h (fun v G=>∃(x:Cd) (k':Nat),v=.agg x.row∧G=[dk l k']∧c9 l k') fun x k' h=>⟨x,k',rfl,rfl,h⟩;exact⟨x,k',h,h1⟩
 intro Q hQ;refine gM rfl rfl ?_;obtain⟨m1,k1,n1,gR,FJ⟩:=fk hd 4 (by omega)
 obtain⟨m2,k2,n2,eZ,MP⟩:=fk gR 4 (by omega)
 obtain⟨m3,k3,n3,kI,Jc⟩:=fk eZ 30 (by omega)
 obtain⟨a,b,k4,n4,qH⟩:=awm kI;obtain⟨m5,k5,n5,Ap,hm5⟩:=fk qH 3 (by omega)
 by_cases h0:m5=0
 ·obtain⟨m6,k6,n6,DD,hm6⟩:=fk Ap 60 (by omega)
  obtain⟨m7,k7,n7,Td,hm7⟩:=fk DD 80 (by omega)
  simp (disch:=omega) [wrap64,RF,n1,n2,n3,n4,n5,h0,n6,n7];exact hQ ⟨1+m1,1+m2,m3,a,b,90+m6,90+m6+m7⟩ _ Td
 ·have JI:(m5==0)=false:=by simp[h0]
  simp (disch:=omega) [wrap64,RF,n1,n2,n3,n4,n5,JI];exact hQ ⟨1+m1,1+m2,m3,a,b,0,16777216⟩ _ Ap
abbrev Vt(l:List Cd):V:=.slice (some 0) 7 (l.map Cd.row)
theorem awp{l:List Int}{k:Nat}(hd:c9 l k):∃(x:List Cd) (k':Nat),aZ F 39 [.bm 0 0] [dk l k]=some (Vt x,[dk l k'])∧c9 l k'∧x.length≤6:=by
 suffices h:∀Q:V→List aS→Prop,(∀(x:List Cd) k',c9 l k'→x.length≤6→Q (Vt x) [dk l k'])→gA (aZ F) 39 [.bm 0 0] [dk l k] Q by
  obtain⟨_,_,h,x,k',rfl,rfl,h1⟩:=h (fun v G=>∃(x:List Cd) (k':Nat),v=Vt x∧G=[dk l k']∧c9 l k'∧x.length≤6) fun x k' h h2=>⟨x,k',rfl,rfl,h,h2⟩;exact⟨x,k',h,h1⟩
 intro Q hQ;refine gM rfl rfl ?_;obtain⟨m,k1,n1,gR,hm⟩:=fk hd 7 (by omega)
 simp (disch:=omega) [wrap64,Z1,n1];refine go_loop (fun y:List Cd×Nat=>amp (.bm 0 0) (.slice (some 1015) 7 (y.1.map Cd.row)) (m-y.1.length) y.1.length [dk l y.2]) (fun y=>(y.1.length:Int)≤m∧c9 l y.2) (fun y=>(m-y.1.length).toNat) ([],k1) rfl (by simp) ⟨by simp;omega,gR⟩ ?_
 rintro⟨x,k⟩ ⟨h1,hd⟩;simp only at h1 hd;simp (disch:=omega) [wrap64,Z0];refine bT (fun h5=>?_) (fun h5=>?_)
 ·obtain⟨c,k2,n2,eZ⟩:=awn hd
  have hx:x.length≤2513169434915:=by omega
  simp (disch:=omega) [wrap64,n2,hx];exact bP (x++[c],k2) (by simp;omega) ⟨by simp;omega,eZ⟩ (by simp;omega)
 ·exact hQ x k hd (by omega)
abbrev Vu(L:List (List Cd)):V:=.slice (some 0) 1 (L.map fun l=>[g5 l])
theorem awq{l:List Int}{k:Nat}(hd:c9 l k){c:Cs}(hs:c.s.length≤1000):∃(L:List (List Cd)) (k':Nat),aZ F 13 [.bm 0 0,cs c] [dk l k]=some (Vu L,[dk l k'])∧c9 l k'∧L.length=c.s.length∧∀i,i<L.length→(nth L i).length≤6:=by
 suffices h:∀Q:V→List aS→Prop,(∀(x:List (List Cd)) k',c9 l k'→x.length=c.s.length→(∀i,i<x.length→(nth x i).length≤6)→Q (Vu x) [dk l k'])→gA (aZ F) 13 [.bm 0 0,cs c] [dk l k] Q by
  obtain⟨_,_,h,x,k',rfl,rfl,h1⟩:=h (fun v G=>∃(x:List (List Cd)) (k':Nat),v=Vu x∧G=[dk l k']∧c9 l k'∧x.length=c.s.length∧∀i,i<x.length→(nth x i).length≤6) fun x k' h h2 h3=>⟨x,k',rfl,rfl,h,h2,h3⟩;exact⟨x,k',h,h1⟩
 intro Q hQ;refine gM rfl rfl ?_;simp (disch:=omega) [wrap64,ZK];refine go_loop (fun y:List (List Cd)×Nat=>al0 (.bm 0 0) (.slice (some 1015) 1 (y.1.map fun l=>[g5 l])) c.s.length y.1.length y.1.length [dk l y.2]) (fun y=>y.1.length≤c.s.length∧c9 l y.2∧∀i,i<y.1.length→(nth y.1 i).length≤6) (fun y=>c.s.length-y.1.length) ([],k) rfl (by simp) ⟨by simp,hd,by simp⟩ ?_
 rintro⟨x,k⟩ ⟨h1,hd,hx6⟩;simp only at h1 hd hx6;simp (disch:=omega) [wrap64,ZJ];refine bT (fun h5=>?_) (fun h5=>?_)
 ·obtain⟨q,k2,n2,eZ,hq⟩:=awp hd
  have hx:x.length≤5864062014804:=by omega
  simp (disch:=omega) [wrap64,n2,hx];refine bP (x++[q],k2) (by simp) ⟨by simp;omega,eZ,fun i hi=>?_⟩ (by simp;omega)
  simp only[m9,qh]at hi;rw[iV];by_cases g:i<x.length
  ·rw[aM g];exact hx6 i g
  ·rw[ay g,aM (by omega)];exact hq
 ·exact hQ x k hd (by omega) hx6
theorem aws(a b:List (List Int))(ha:a.length≤1000000000)(h:∀i,i<a.length→(nth a i).length≤17592186044416)(G:List aS):aZ F 65 [lH a,lH b,.fn 66 []] G=some (.bool (decide (a=b)),G) :=
 bM rfl rfl (by
  generalize hW:decide (a=b)=W;by_cases h1:a.length=b.length
  case neg =>
   have jm:¬ (a.length:Int)=b.length:=by omega
   simp (disch:=omega) [-getElem?_pos,wrap64,RA,jm];rw[←hW,decide_eq_false fun h=>h1 (by rw[h])]
  have jm:(a.length:Int)=b.length:=by omega
  simp (disch:=omega) [-getElem?_pos,wrap64,RA,jm];refine go_loop (fun i:Nat=>amK (lH b) (.fn 66 []) (lH a) b.length i G) (fun i=>i≤a.length∧∀j,j<i→nth a j=nth b j) (fun i=>a.length-i) 0 rfl (by simp) (by simp) ?_
  rintro i ⟨hi,hj⟩;simp (disch:=omega) [-getElem?_pos,wrap64,aaj];refine bT (fun h5=>?_) (fun h5=>?_)
  ·have h5:i<b.length:=by omega
   have h6:i<a.length:=by omega
   have he:=av8 (nth a i) (nth b i) (h i h6);by_cases h7:nth a i=nth b i
   ·rw[jf h7]at he
    simp (disch:=omega) [-getElem?_pos,wrap64,bf (l:=a),bf (l:=b),he];exact bP (i+1) (by simp) ⟨by omega,fun j yr=>by
     by_cases g:j=i
     ·rw[g];exact h7
     ·exact hj j (by omega)⟩ (by omega)
   ·rw[decide_eq_false h7]at he
    simp (disch:=omega) [-getElem?_pos,wrap64,bf (l:=a),bf (l:=b),he];rw[←hW,decide_eq_false fun h=>h7 (by rw[h])]
  ·rw[←hW,jf (awc h1 fun j yr=>hj j (by omega))])
instance:DecidableEq Pn:=fun a b=>decidable_of_iff (a.f=b.f∧a.l=b.l) ⟨fun h=>by cases a;cases b;simp_all,fun h=>by rw[h];exact⟨rfl,rfl⟩⟩
theorem ahl(a b:Pn)(ha:a.l.length≤1000000000)(h:∀i,i<a.l.length→(nth a.l i).length≤17592186044416)(G:List aS):aZ F 23 [pn a,pn b] G=some (.bool (decide (a=b)),G) :=
 bM rfl rfl (by
  have he:=aws a.l b.l ha h;obtain⟨f,l⟩:=a;obtain⟨g,m⟩:=b;simp only at he;by_cases h1:f=g
  ·subst h1
   rw[show decide ((⟨f,l⟩:Pn)=⟨f,m⟩)=decide (l=m) by simp]
   simp[wrap64,Ro,he]
  ·rw[show decide ((⟨f,l⟩:Pn)=⟨g,m⟩)=false by simp[h1]]
   simp[wrap64,Ro,he,h1])
abbrev wC:Cs:=⟨⟨1,[]⟩,[]⟩
abbrev AS:Fl:=⟨0,[],[]⟩
abbrev xQ:Pn:=⟨0,[]⟩
theorem awt:jR wC.r=0:=by
 unfold jR;rw[ay (by decide)]
 rfl
theorem ahm:e8 wC=0:=by
 unfold e8;rw[ay (fun g=>g awt),ay (by decide),ay (by decide)]
 rfl
theorem Vv:lh wC.r:=⟨by decide,fun i hi=>by simp at hi⟩
theorem Vw:oe AS:=fun i=>y7 _
theorem ahn:eR wC AS:=⟨by decide,⟨rfl,by simp⟩,rfl,fun i hi=>by simp at hi⟩
theorem awu:wA wC xQ=0:=by
 unfold wA;rw[ay (fun g=>g ahm),aM (by decide),ay (by decide)]
 rfl
theorem aho:om wC AS xQ ([]:List Sp).length=0:=by
 unfold om;rw[ay (fun g=>g awu),aM ahn,aM (show xQ.f=AS.t from rfl),aM (show([]:List Sp).length=xQ.l.length from rfl)]
theorem awv:kO wC AS=0:=by unfold kO;rw[ay (fun g=>g ahm),aM ahn]
theorem ahp:jc wC AS []=0:=by
 unfold jc;rw[ay (fun g=>g awv),ay (by simp)]
 rfl
theorem ahq:B8 wC AS xQ []=0:=by
 unfold B8;rw[ay (fun g=>g aho)];exact ahp
theorem aww(G:List aS):aZ F 25 [.agg [i64 4,.slice none 1 [[.slice none 1 [[i64 1]]],[.slice none 1 [[i64 2]]]]],i64 5] G=some (.tuple [.slice none 1 [[i64 2]],.bool true],G) :=
 bM rfl rfl (by
  have h:=UD [2] (by simp)
  simp only[ints,oq,GW]at h;simp[wrap64,ZQ,h])
theorem awx:∃G',aZ F 14 [cs wC,fl AS,.slice none 1 [],pn xQ,oj []] []=some (.tuple [.agg [i64 0,.slice none 1 []],.slice none 4 [],i64 0],G'):=by
 suffices h:gA (aZ F) 14 [cs wC,fl AS,.slice none 1 [],pn xQ,oj []] [] fun v _=>v=.tuple [.agg [i64 0,.slice none 1 []],.slice none 4 [],i64 0] by
  obtain⟨_,G,h,rfl⟩:=h;exact⟨G,h⟩
 refine gM rfl rfl ?_;have h1:∀g G,aZ F 42 [.agg [i64 1,.slice none 4 [],.slice none 10 [],i64 0,.slice none 1 [],.fn 40 g],.agg [i64 0,.slice none 4 [],.slice none 1 []],.slice none 3 []] G=some (i64 0,G):=fun g G=>by
  have:=af7 wC Vv Vw xQ 40 g [] G;rw[aho]at this;exact this
 obtain⟨G0,h2⟩:=agF Vv Vw [] (by simp)
 rw[mD,aM ahp]at h2;replace h2:aZ F 85 [.agg [i64 1,.slice none 4 [],.slice none 10 []],.agg [i64 0,.slice none 4 [],.slice none 1 []],.slice none 3 []] []=some (.tuple [.agg [i64 0,.slice none 4 [],.slice none 1 []],.slice (some 0) 3 [],i64 0],G0):=h2;have h3:∀G,aZ F 43 [.agg [i64 1,.slice none 4 [],.slice none 10 []],.slice none 1 []] G=some (i64 0,G):=fun G=>bM rfl rfl (by
  simp[wrap64,L8];rw[Z6,vX];simp[wrap64,Ru])
 have h4:∀G,aZ F 44 [.agg [i64 1,.slice none 4 [],.slice none 10 [],i64 0,.slice none 1 [],.fn 40 [.bm 0 0,.bm 1 0,.bm 3 0,.bm 2 0]],.agg [i64 0,.slice none 4 [],.slice none 1 []],.slice none 3 []] G=some (.tuple [.agg [i64 0,.slice none 4 [],.slice none 1 []],.slice (some 0) 3 [],i64 0],G):=fun G=>bM rfl rfl (by
  simp[wrap64,Rx,h2];rw[Z7,vX];simp[wrap64,Rw])
 simp[wrap64,Fu,h1,h3,h4]
theorem awy:∃G',aZ F 6 [] []=some (.bool true,G'):=by
 suffices h:gA (aZ F) 6 [] [] fun v _=>v=.bool true by
  obtain⟨_,G,h,rfl⟩:=h;exact⟨G,h⟩
 refine gM rfl rfl ?_;obtain⟨X,x,_,h1⟩:=avF Vv Vw xQ [] [];rw[x ahq,av1 ahq]at h1;replace h1:aZ F 28 [.agg [i64 1,.slice none 4 [],.slice none 10 []],.agg [i64 0,.slice none 4 [],.slice none 1 []],.agg [i64 0,.slice none 1 []],.slice none 3 []] []=some (.tuple [.agg [i64 0,.slice none 4 [],.slice none 1 []],.slice (some 0) 3 [],i64 0],[]):=h1;obtain⟨G2,h2⟩:=awx;have h3:=ahl xQ xQ (by simp) (fun i hi=>by simp at hi)
 simp only[pn,Pn.row,lH,cs,Cs.row,od,tX,fl,Fl.row,xH,oj,GW]at h2 h3;simp[wrap64,ZB,h1,h2,aww,h3]
theorem yJ(n m:Int)(G:List aS):aZ F 53 [i64 n,i64 m] G=some (.bool (gZ n m),G):=c7 n m G
theorem Yr(d:Int)(G:List aS):aZ F 92 [i64 d] G=some (.bool (gZ d 364),G) :=
 bM rfl rfl (by simp[wrap64,aiD,yJ])
theorem anA(f t:Int)(G:List aS):aZ F 139 [.agg [i64 f,i64 t]] G=some (.bool (gZ f 364&&gZ t 364),G) :=
 bM rfl rfl (by
  have h1:=Yr f;have h2:=Yr t;cases e1:gZ f 364<;>rw[e1]at h1
  ·simp[wrap64,aev,h1]
  ·simp[wrap64,aev,h1,h2])
theorem aB8(f t d:Int)(G:List aS):aZ F 138 [.agg [i64 f,i64 t],i64 d] G=some (.bool (I5 f t d),G) :=
 bM rfl rfl (by
  generalize hW:I5 f t d=W;unfold I5 at hW;have h1:=anA f t;have h2:=Yr d;cases e1:(gZ f 364&&gZ t 364)<;>rw[e1]at h1 hW
  ·rw[ay (by simp)]at hW
   simp[wrap64,EJ,h1];exact hW.symm
  cases e2:gZ d 364<;>rw[e2]at h2 hW
  ·rw[ay (by simp)]at hW
   simp[wrap64,EJ,h1,h2];exact hW.symm
  rw[aM (by simp)]at hW
  by_cases h3:f≤t
  ·rw[aM h3]at hW
   by_cases h4:f≤d
   ·simp[wrap64,EJ,h1,h2,h3,h4]
    simpa [h4] using hW
   ·simp[wrap64,EJ,h1,h2,h3,h4]
    simpa [h4] using hW
  ·rw[ay h3]at hW
   by_cases h4:f≤d
   ·simp[wrap64,EJ,h1,h2,h3,h4]
    simpa [h4] using hW
   ·simp[wrap64,EJ,h1,h2,h3,h4]
    simpa [h4] using hW)
theorem aB9{t:Int}(ht:0≤t∧t≤16777216)(G:List aS):aZ F 15 [i64 t] G=some (.tuple [i64 (rW t),i64 0],G) :=
 bM rfl rfl (by
  have h1:∀G,aZ F 45 [i64 t] G=some (.tuple [i64 (t.tdiv 35040),i64 (rW t),i64 (t.tmod 96),i64 0],G):=fun G=>bM rfl rfl (by
   have h2:=yJ t 16777216;rw[Dz.2 ht]at h2;have q1:0≤t.tdiv 35040∧t.tdiv 35040≤16777216:=by rw[xT ht.1];omega
   have q2:0≤t.tdiv 96∧t.tdiv 96≤16777216:=by rw[xT ht.1];omega
   have q3:(t.tdiv 96).tdiv 365=t.tdiv 35040:=by
    rw[xT q2.1,xT ht.1,xT ht.1];omega
   simp (disch:=omega) [wrap64,ahz,h2,rW,q3])
  simp (disch:=omega) [wrap64,aht,h1])
theorem af9(c:Cd)(G:List aS):aZ F 95 [.agg c.row] G=some (i64 (rA c),G) :=
 bM rfl rfl (by
  generalize hW:rA c=W;unfold rA at hW;by_cases h1:c.rk<1
  ·rw[aM (.inl h1)]at hW
   simp[wrap64,xt,h1];exact hW
  by_cases h2:9<c.rk
  ·rw[aM (.inr h2)]at hW
   simp[wrap64,xt,h1,h2];exact hW
  rw[ay (by omega)]at hW
  by_cases h3:c.kd<1
  ·rw[aM (.inl h3)]at hW
   simp[wrap64,xt,h1,h2,h3];exact hW
  by_cases h4:4<c.kd
  ·rw[aM (.inr h4)]at hW
   simp[wrap64,xt,h1,h2,h3,h4];exact hW
  rw[ay (by omega)]at hW
  have w1:=yJ c.v 1073741824;have w2:=anA c.f c.t;have w3:=yJ c.a 16777216;have w4:=yJ c.b 16777216;cases e1:gZ c.v 1073741824<;>rw[e1]at w1 hW
  ·rw[ay (by simp)]at hW
   simp[wrap64,xt,h1,h2,h3,h4,w1];exact hW
  cases e2:(gZ c.f 364&&gZ c.t 364)<;>rw[e2]at w2 hW
  ·rw[ay (by simp)]at hW
   simp[wrap64,xt,h1,h2,h3,h4,w1,w2];exact hW
  cases e3:gZ c.a 16777216<;>rw[e3]at w3 hW
  ·rw[ay (by simp)]at hW
   simp[wrap64,xt,h1,h2,h3,h4,w1,w2,w3];exact hW
  cases e4:gZ c.b 16777216<;>rw[e4]at w4 hW
  ·rw[ay (by simp)]at hW
   simp[wrap64,xt,h1,h2,h3,h4,w1,w2,w3,w4];exact hW
  by_cases h5:c.b<c.a
  ·rw[ay (by simp;omega)]at hW
   simp[wrap64,xt,h1,h2,h3,h4,w1,w2,w3,w4,h5];exact hW
  ·rw[aM (by simp;omega)]at hW
   simp[wrap64,xt,h1,h2,h3,h4,w1,w2,w3,w4,h5];exact hW)
theorem aCc(l:List Cd)(G:List aS):aZ F 91 [g5 l] G=some (i64 (tJ l),G) :=
 bM rfl rfl (by
  generalize hW:tJ l=W;unfold tJ at hW;by_cases h1:200<l.length
  ·rw[aM h1]at hW
   have jm:(200:Int)<l.length:=by omega
   simp (disch:=omega) [-getElem?_pos,wrap64,aei,jm];exact hW
  rw[ay h1]at hW;have jm:¬ (200:Int)<l.length:=by omega
  simp (disch:=omega) [-getElem?_pos,wrap64,aei,jm];refine go_loop (fun i:Nat=>awo (g5 l) l.length i G) (fun i=>i≤l.length∧dH (fun i=>rA (nth l i)) (l.length-i) i=W) (fun i=>l.length-i) 0 rfl (by simp) ⟨by omega,hW⟩ ?_
  rintro i ⟨hi,hq⟩;simp (disch:=omega) [-getElem?_pos,wrap64,aiC];refine bT (fun h3=>?_) (fun h3=>?_)
  ·have h3:i<l.length:=by omega
   rw[kZ h3]at hq;have h4:=af9 (nth l i);by_cases h5:rA (nth l i)=0
   ·rw[aM h5]at hq
    simp (disch:=omega) [-getElem?_pos,wrap64,bf (l:=l),h4,h5];exact bP (i+1) (by simp) ⟨by omega,hq⟩ (by omega)
   ·rw[ay h5]at hq
    simp (disch:=omega) [-getElem?_pos,wrap64,bf (l:=l),h4,h5];exact hq
  ·obtain rfl:i=l.length:=by omega
   rw[mO]at hq;exact hq)
theorem aCk(c:Cd)(day level:Int)(G:List aS):aZ F 94 [.agg c.row,i64 day,i64 level] G=some (.bool (I7 c day level),G) :=
 bM rfl rfl (by
  generalize hW:I7 c day level=W;unfold I7 at hW;have w1:=af9 c;have w2:=aB8 c.f c.t day;by_cases h1:rA c=0
  case neg =>
   simp[wrap64,LM,w1,h1];simpa [h1] using hW
  cases e2:I5 c.f c.t day<;>rw[e2]at w2 hW
  ·simp[wrap64,LM,w1,h1,w2]
   simpa [h1] using hW
  by_cases h3:c.a≤level
  ·simp[wrap64,LM,w1,h1,w2,h3]
   simpa [h1,h3] using hW
  ·simp[wrap64,LM,w1,h1,w2,h3]
   simpa [h1,h3] using hW)
theorem anB{c:Cd}(hc:rA c=0){before:Int}(hb:0≤before∧before≤1073741824)(G:List aS) :
  aZ F 50 [.agg c.row,i64 before] G=some (.tuple [.agg [i64 (pZ c before).1,i64 (pZ c before).2],.bool true],G) :=
 bM rfl rfl (by
  have w1:∀G,aZ F 53 [i64 before,i64 1073741824] G=some (.bool true,G):=fun G=>(show gZ before 1073741824=true from Dz.2 hb) ▸ yJ before 1073741824 G;obtain⟨_,hk,hv⟩:=JJ hc;obtain⟨rk,kd,v,f,t,a,b⟩:=c;simp only at hk hv;have w0:=fun G=>hc ▸ af9 ⟨rk,kd,v,f,t,a,b⟩ G;rcases (by omega:kd=1∨kd=2∨kd=3∨kd=4) with rfl|rfl|rfl|rfl
  ·simp (disch:=omega) [wrap64,LK,w0,w1,pZ]
  ·simp (disch:=omega) [wrap64,LK,w0,w1,pZ]
  ·have e:min 1073741824 (before+v)=min (before+v) 1073741824:=by omega
   simp (disch:=omega) [wrap64,LK,w0,w1,pZ,e]
  ·have e:max 0 (before-v)=max (before-v) 0:=by omega
   simp (disch:=omega) [wrap64,LK,w0,w1,pZ,e])
theorem aCn{c:Cd}(hc:rA c=0){before r:Int}(hb:0≤before∧before≤1073741824)(G:List aS) :
  aZ F 54 [.agg c.row,i64 before,i64 r] G=some (.bool (decide ((pZ c before).1≤r)&&decide (r≤(pZ c before).2)),G) :=
 bM rfl rfl (by
  have w2:=anB hc hb;obtain⟨b1,b2,HK⟩:∃b1 b2,pZ c before=(b1,b2):=⟨_,_,rfl⟩;rw[HK]at w2 ⊢;by_cases h1:b1≤r
  ·simp[wrap64,aec,w2,h1]
  ·simp[wrap64,aec,w2,h1])
end Go.Proofs.YtmppfkgfnnebeaaGreatDoor
namespace Go.Proofs.YtmppfkgfnnebeaaGreatDoor
set_option linter.all false
open Go.Vm Go.Chs
def HO(l:List Cd):Prop:=∀G,aZ F 93 [g5 l] G=some (.slice none 1 (ta (kK (iW l) (List.range l.length))),G)
theorem ags{l:List Nat}{i:Nat}(h:i<l.length):(ta l)[i]?=some [i64 ((nth l i:Nat):Int)]:=by simp[ta,nth,List.getD,h]
theorem agt{l:List Cd}{day level:Int}(h:Gu l day level)(hO:HO l)(G:List aS) :
  aZ F 49 [g5 l,i64 day,i64 level] G=some (.tuple [.slice (some 0) 1 (ta (lg l day level)),i64 0],G) :=
 bM rfl rfl (by
  have w0:∀G,aZ F 91 [g5 l] G=some (i64 0,G):=fun G=>h.e ▸ aCc l G;have w1:∀G,aZ F 92 [i64 day] G=some (.bool true,G):=fun G=>(Dz.2 h.d) ▸ Yr day G;have w2:∀G,aZ F 53 [i64 level,i64 16777216] G=some (.bool true,G):=fun G=>(Dz.2 h.v) ▸ yJ level 16777216 G;have w3:∀G,aZ F 93 [g5 l] G=some (.slice none 1 (ta (kK (iW l) (List.range l.length))),G):=hO;have hn:=h.n;have EX:(kK (iW l) (List.range l.length)).length=l.length:=Jg _;have hOv:∀x∈kK (iW l) (List.range l.length),x<l.length:=fun x hx=>((FL _).2 x).1 hx;unfold lg FM;generalize kK (iW l) (List.range l.length)=O at *
  simp (disch:=omega) [-getElem?_pos,wrap64,aii,w0,w1,w2,w3];refine go_loop (fun p:Nat×List Nat=>avO (g5 l) day level (.slice (some 1042) 1 (ta p.2)) (.slice none 1 (ta O)) O.length p.1 p.2.length G) (fun p=>p.1≤O.length∧p.2=(O.take p.1).filter (ph l day level)) (fun p=>O.length-p.1) (0,[]) rfl (by simp[ta]) ⟨by simp,rfl⟩ ?_
  rintro⟨i,K⟩ ⟨hi,hK⟩;simp only at hi hK;simp (disch:=omega) [-getElem?_pos,wrap64,aih];refine bT (fun g=>?_) (fun g=>?_)
  ·have g:i<O.length:=by omega
   have c1:=ags g;have hx:=hOv (nth O i) (by simp[nth,List.getD,g])
   have hs:=kq g;generalize nth O i=x at *;have w4:=aCk (nth l x) day level;have YY:K.length≤17592186044415:=by
    have:K.length≤(O.take i).length:=by rw[hK];exact u5 _ _
    simp at this;omega
   change ∀G,aZ F _ _ G=some (.bool (ph l day level x),G)at w4;cases e:ph l day level x<;>rw[e]at w4
   ·simp (disch:=omega) [-getElem?_pos,wrap64,g,c1,bf (l:=l),w4]
    exact bP (i+1,K) (by simp) ⟨by simp;omega,by simp[hs,e,hK]⟩ (by simp;omega)
   ·simp (disch:=omega) [-getElem?_pos,wrap64,g,c1,bf (l:=l),w4,YY,agO]
    exact bP (i+1,K++[x]) (by simp) ⟨by simp;omega,by simp[hs,e,hK]⟩ (by simp;omega)
  ·obtain rfl:i=O.length:=by omega
   rw[na]at hK;subst hK;simp)
theorem aCo{l:List Cd}{day level before r:Int}(h:Gu l day level)(hO:HO l)(hb:0≤before∧before≤1073741824)(hw:0≤r∧r≤1073741824)(G:List aS) :
  aZ F 18 [g5 l,i64 day,i64 level,i64 before,i64 r] G=some (.tuple [.slice (some 0) 1 (ta ((lg l day level).filter (keeps (qd l before) r))),.slice (some 0) 1 (ta (B9 l day level before r)),i64 0],G) :=
 bM rfl rfl (by
  have w0:=agt h hO;have w1:∀G,aZ F 53 [i64 before,i64 1073741824] G=some (.bool true,G):=fun G=>(Dz.2 hb) ▸ yJ before 1073741824 G;have w2:∀G,aZ F 53 [i64 r,i64 1073741824] G=some (.bool true,G):=fun G=>(Dz.2 hw) ▸ yJ r 1073741824 G;obtain⟨hAl,T5⟩:=afp h.n (day:=day) (level:=level);unfold B9;generalize lg l day level=A at *;simp (disch:=omega) [-getElem?_pos,wrap64,ahx,w0,w1,w2]
  refine go_loop (fun p:Nat×List Nat×List Nat=>avo (g5 l) before r (.slice (some 1053) 1 (ta p.2.1)) (.slice (some 1057) 1 (ta p.2.2)) (.slice none 1 (ta A)) A.length p.1 p.2.1.length p.2.2.length G) (fun p=>p.1≤A.length∧p.2.1=(A.take p.1).filter (keeps (qd l before) r)∧p.2.2=(A.take p.1).filter (fun i => !keeps (qd l before) r i)) (fun p=>A.length-p.1) (0,[],[]) rfl (by simp[ta]) ⟨by simp,rfl,rfl⟩ ?_
  rintro⟨i,K,W⟩ ⟨hi,hK,hW⟩;simp only at hi hK hW;simp (disch:=omega) [-getElem?_pos,wrap64,ahw];refine bT (fun g=>?_) (fun g=>?_)
  ·have g:i<A.length:=by omega
   obtain⟨⟨T6,Ey⟩,_⟩:=T5 i g;have c1:=ags g;have hs:=kq g;have hk9:K.length≤19:=by rw[hK];exact iQ (u5 _ _) (by simp;omega)
   have hw9:W.length≤19:=by rw[hW];exact iQ (u5 _ _) (by simp;omega)
   have YY:K.length≤17592186044415:=by omega
   have hw8:W.length≤17592186044415:=by omega
   generalize nth A i=x at *;have w3:=aCn T6 (r:=r) hb;change ∀G,aZ F _ _ G=some (.bool (keeps (qd l before) r x),G)at w3;cases e:keeps (qd l before) r x<;>rw[e]at w3
   ·simp (disch:=omega) [-getElem?_pos,wrap64,g,c1,bf (l:=l),w3,YY,hw8,agO]
    exact bP (i+1,K,W++[x]) (by simp) ⟨by simp;omega,by simp[hs,e,hK],by simp[hs,e,hW]⟩ (by simp;omega)
   ·simp (disch:=omega) [-getElem?_pos,wrap64,g,c1,bf (l:=l),w3,YY,hw8,agO]
    exact bP (i+1,K++[x],W) (by simp) ⟨by simp;omega,by simp[hs,e,hK],by simp[hs,e,hW]⟩ (by simp;omega)
  ·obtain rfl:i=A.length:=by omega
   rw[na]at hK hW;subst hK hW;simp)
end Go.Proofs.YtmppfkgfnnebeaaGreatDoor
namespace Go.Proofs.YtmppfkgfnnebeaaGreatDoor
set_option linter.all false
open Go.Vm Go.Chs
theorem aCp{a b:Int×Int}(ha:a.1≤a.2)(hb:b.1≤b.2)(G:List aS):aZ F 51 [.agg [i64 a.1,i64 a.2],.agg [i64 b.1,i64 b.2]] G =
  some (.tuple (if max a.1 b.1≤min a.2 b.2 then [.agg [i64 (max a.1 b.1),i64 (min a.2 b.2)],.bool true] else [.agg [i64 0,i64 0],.bool false]),G) :=
 bM rfl rfl (by
  have h1:¬ a.2<a.1:=by omega
  have h2:¬ b.2<b.1:=by omega
  obtain⟨x,hx⟩:∃x,x=max a.1 b.1:=⟨_,rfl⟩;obtain⟨y,hy⟩:∃y,y=min a.2 b.2:=⟨_,rfl⟩;by_cases h:max a.1 b.1≤min a.2 b.2
  ·have h3:¬ min a.2 b.2<max a.1 b.1:=by omega
   rw[aM h];rw[←hx,← hy]at h3 ⊢;simp[wrap64,aea,h1,h2,← hx,← hy,h3]
  ·have h3:min a.2 b.2<max a.1 b.1:=by omega
   rw[ay h];rw[←hx,← hy]at h3;simp[wrap64,aea,h1,h2,← hx,← hy,h3])
theorem aCs(w lo hi:Int)(h:lo≤hi)(G:List aS):aZ F 52 [i64 w,.agg [i64 lo,i64 hi]] G=some (i64 (BQ w lo hi),G) :=
 bM rfl rfl (by
  have h1:¬ hi<lo:=by omega
  have:max lo (min w hi)=BQ w lo hi:=by unfold BQ;split<;>(try split)<;>omega
  simp[wrap64,aiq,h1,this])
theorem aCu{l:List Cd}{day level before lo hi w:Int}(h:Gu l day level)(hO:HO l)(hb:0≤before∧before≤1073741824)(hw:0≤w∧w≤1073741824)(JK:0≤lo∧lo≤hi∧hi≤1073741824)(G:List aS) :
  aZ F 48 [g5 l,i64 day,i64 level,i64 before,.agg [i64 lo,i64 hi],i64 w] G=some (i64 0,G) :=
 bM rfl rfl (by
  have w0:=agt h hO;have h1:¬ hi<lo:=by omega
  simp (disch:=omega) [-getElem?_pos,wrap64,aid,w0];refine go_loop (fun i:Nat=>avw (.slice none 1 [[i64 before],[i64 w],[i64 lo],[i64 hi]]) 4 i [i64 lo,i64 hi] G) (fun i=>i≤4) (fun i=>4-i) 0 rfl (by simp) (by omega) ?_
  rintro i hi4;simp (disch:=omega) [-getElem?_pos,wrap64,ah9];refine bT (fun g=>?_) (fun g=>?_)
  ·have g:i<4:=by omega
   obtain⟨x,hx,hxb⟩:∃x:Int,[[i64 before],[i64 w],[i64 lo],[i64 hi]][i]?=some [i64 x]∧0≤x∧x≤1073741824:=by
    rcases (by omega:i=0∨i=1∨i=2∨i=3) with rfl|rfl|rfl|rfl
    ·exact⟨before,rfl,hb⟩
    ·exact⟨w,rfl,hw⟩
    ·exact⟨lo,rfl,by omega⟩
    ·exact⟨hi,rfl,by omega⟩
   have w1:∀G,aZ F 53 [i64 x,i64 1073741824] G=some (.bool true,G):=fun G=>(Dz.2 hxb) ▸ yJ x 1073741824 G;simp (disch:=omega) [-getElem?_pos,wrap64,hx,w1];exact bP (i+1) (by simp) (by omega) (by omega)
  ·simp (disch:=omega) [-getElem?_pos,wrap64,h1])
set_option maxHeartbeats 1000000 in
theorem aCv{l:List Cd}{day level before lo hi w:Int}(h:Gu l day level)(hO:HO l)(hb:0≤before∧before≤1073741824)(hw:0≤w∧w≤1073741824)(JK:0≤lo∧lo≤hi∧hi≤1073741824)(G:List aS) :
  aZ F 17 [g5 l,i64 day,i64 level,i64 before,.agg [i64 lo,i64 hi],i64 w] G=some (.tuple [atz (Nq l day level before lo hi) w,i64 0],G) :=
 bM rfl rfl (by
  have w0:=aCu h hO hb hw JK;have w1:=agt h hO;obtain⟨hAl,T5⟩:=afp h.n (day:=day) (level:=level);have atC:∀j,j∈lg l day level→rA (nth l j)=0:=fun j hj=>T3 (r9.1 hj).2;rw[Nq];generalize lg l day level=A at *;obtain⟨b,hbd⟩:∃b,b=AF (qd l before) A:=⟨_,rfl⟩;have Nn:∀i,(b i).1≤(b i).2:=by rw[hbd];exact atx fun j hj=>(afm (atC j hj) hb).2.1
  have hbA:∀j,j∈A→b j=pZ (nth l j) before:=fun j hj=>by rw[hbd];simp[AF,hj,qd]
  have aeb:nq (qd l before) A (sQ lo hi)=nq b A (sQ lo hi):=by rw[hbd,aty]
  rw[aeb];simp (disch:=omega) [-getElem?_pos,wrap64,ahv,w0,w1];refine go_loop (fun p:Nat×Chs.Ch×(Int×Int)=>au9 (g5 l) before w p.2.1.lb p.2.1.hb (.slice none 1 (ta A)) A.length p.1 [z0,z0,z0,.cb] [z0,i64 p.2.1.lo,i64 p.2.1.hi,.slice (some 1092) 2 (oM p.2.1.ys)] [i64 p.2.2.1,i64 p.2.2.2] p.2.1.ys.length G) (fun p=>p.1≤A.length∧p.2.1=nq b (A.take p.1) (sQ lo hi)∧aB4 b p.2.1 p.2.2∧p.2.1.ys.length≤p.1) (fun p=>A.length-p.1) (0,sQ lo hi,(0,0)) rfl (by simp[sQ,oM]) ⟨by simp,rfl,⟨by simp[sQ],by simp[sQ],by simp,fun _=>rfl⟩,by simp[sQ]⟩ ?_
  rintro⟨i,C,f⟩ ⟨hi3,hCi,hF,MT⟩;simp only at hi3 hCi hF MT;have hv:Inv b lo _ (A.take i) C:=hCi ▸ arp Nn JK.2.1 (A.take i);have afq:=hv.m;simp (disch:=omega) [-getElem?_pos,wrap64,ahu];refine bT (fun g=>?_) (fun g=>?_)
  ·have g:i<A.length:=by omega
   obtain⟨⟨T6,Ey⟩,_⟩:=T5 i g;have c1:=ags g;have hs:=kq g;have HK:=hbA (nth A i) (by simp[nth,List.getD,g])
   have M9:nq b (A.take (i+1)) (sQ lo hi)=sO b C (nth A i):=by rw[hs,atw,← hCi]
   have lN:=aAe Nn hv hF (nth A i);generalize nth A i=x at *;have w2:=anB T6 hb;rw[←HK]at w2;have anG:=Nn x;have w3:=aCp (a:=(C.lo,C.hi)) (b:=b x) afq anG;unfold sO at M9 lN;obtain⟨b1,b2,hbe⟩:∃b1 b2,b x=(b1,b2):=⟨_,_,rfl⟩;simp only[hbe,out]at w2 w3 M9 lN anG;obtain⟨uP,jy,lb,rj,ys,up⟩:=C;simp only at w3 M9 lN afq MT;have T7:ys.length≤8796093022207:=by omega
   by_cases g1:b2<uP
   ·rw[ay (by omega)]at w3
    rw[aM g1]at M9 lN;by_cases Be:ys=[]
    ·subst Be
     rw[aM (by simp[g1])]at lN
     simp (disch:=omega) [-getElem?_pos,wrap64,g,c1,bf (l:=l),w2,w3,g1,T7,oM];exact bP (i+1,⟨uP,jy,lb,rj,[]++[(x,lb)],up⟩,(b1,b2)) (by simp[oM]) ⟨by simp;omega,M9.symm,lN,by simp⟩ (by simp;omega)
    ·rw[ay (fun q=>Be q.2)]at lN
     have cf:((ys.length:Int)==0)=false:=A0.2 (by have:=Ck.2 Be;omega)
     have Hx:ys.isEmpty=false:=by simpa using Be
     simp (disch:=omega) [-getElem?_pos,wrap64,g,c1,bf (l:=l),w2,w3,g1,T7,cf,T4];exact bP (i+1,⟨uP,jy,lb,rj,ys++[(x,lb)],up⟩,f) (by simp) ⟨by simp;omega,M9.symm,lN,by simp;omega⟩ (by simp;omega)
   rw[ay g1]at M9 lN;by_cases g2:jy<b1
   ·rw[ay (by omega)]at w3
    rw[aM g2]at M9 lN;by_cases Be:ys=[]
    ·subst Be
     rw[aM (by simp[g2])]at lN
     simp (disch:=omega) [-getElem?_pos,wrap64,g,c1,bf (l:=l),w2,w3,g1,T7,oM];exact bP (i+1,⟨uP,jy,lb,rj,[]++[(x,rj)],up || true⟩,(b1,b2)) (by simp[oM]) ⟨by simp;omega,M9.symm,lN,by simp⟩ (by simp;omega)
    ·rw[ay (fun q=>Be q.2)]at lN
     have cf:((ys.length:Int)==0)=false:=A0.2 (by have:=Ck.2 Be;omega)
     have Hx:ys.isEmpty=false:=by simpa using Be
     simp (disch:=omega) [-getElem?_pos,wrap64,g,c1,bf (l:=l),w2,w3,g1,T7,cf,T4];exact bP (i+1,⟨uP,jy,lb,rj,ys++[(x,rj)],up || ys.isEmpty⟩,f) (by simp) ⟨by simp;omega,M9.symm,lN,by simp;omega⟩ (by simp;omega)
   rw[ay g2]at M9 lN;rw[aM (by omega),Y6 uP b1,Oq jy b2]at w3
   have hnf:¬ (decide (b2<uP∨jy<b1)=true∧ys=[]):=by simp;omega
   rw[ay hnf]at lN;have x1:uP<max b1 uP↔¬ max b1 uP=uP:=by omega
   have x2:min b2 jy<jy↔¬ min b2 jy=jy:=by omega
   generalize max b1 uP=X at *;generalize min b2 jy=Y at *;by_cases e1:X=uP
   ·rw[aM e1]at M9 lN
    have z1:¬ uP<X:=by omega
    by_cases e2:Y=jy
    ·rw[aM e2]at M9 lN
     have z2:¬ Y<jy:=by omega
     simp (disch:=omega) [-getElem?_pos,wrap64,g,c1,bf (l:=l),w2,w3,z1,z2];exact bP (i+1,⟨X,Y,lb,rj,ys,up⟩,f) (by simp) ⟨by simp;omega,M9.symm,lN,by simp;omega⟩ (by simp;omega)
    ·rw[ay e2]at M9 lN
     have z2:Y<jy:=x2.2 e2;simp (disch:=omega) [-getElem?_pos,wrap64,g,c1,bf (l:=l),w2,w3,z1,z2];exact bP (i+1,⟨X,Y,lb,x,ys,up⟩,f) (by simp) ⟨by simp;omega,M9.symm,lN,by simp;omega⟩ (by simp;omega)
   ·rw[ay e1]at M9 lN
    have z1:uP<X:=x1.2 e1;by_cases e2:Y=jy
    ·rw[aM e2]at M9 lN
     have z2:¬ Y<jy:=by omega
     simp (disch:=omega) [-getElem?_pos,wrap64,g,c1,bf (l:=l),w2,w3,z1,z2];exact bP (i+1,⟨X,Y,x,rj,ys,up⟩,f) (by simp) ⟨by simp;omega,M9.symm,lN,by simp;omega⟩ (by simp;omega)
    ·rw[ay e2]at M9 lN
     have z2:Y<jy:=x2.2 e2;simp (disch:=omega) [-getElem?_pos,wrap64,g,c1,bf (l:=l),w2,w3,z1,z2];exact bP (i+1,⟨X,Y,x,x,ys,up⟩,f) (by simp) ⟨by simp;omega,M9.symm,lN,by simp;omega⟩ (by simp;omega)
  ·obtain rfl:i=A.length:=by omega
   rw[na]at hCi;rw[←hCi];have Fb:=aAd hv hF w;have w4:=aCs w C.lo C.hi afq;obtain⟨uP,jy,lb,rj,ys,up⟩:=C;simp only at Fb w4;cases ys with
   |nil =>
    rw[aM rfl]at Fb;simp (disch:=omega) [-getElem?_pos,wrap64,w4,Fb]
   |cons y ys =>
    rw[ay (by simp)]at Fb
    have gy:(0:Int)<(ys.length:Int)+1:=by omega
    have anK:0<ys.length+1:=by omega
    by_cases e:f.2<uP
    ·rw[aM e]at Fb
     simp (disch:=omega) [-getElem?_pos,wrap64,w4,Fb,e,gy,anK]
    ·rw[ay e]at Fb
     simp (disch:=omega) [-getElem?_pos,wrap64,w4,Fb,e,gy,anK])
end Go.Proofs.YtmppfkgfnnebeaaGreatDoor
namespace Go.Proofs.YtmppfkgfnnebeaaGreatDoor
set_option linter.all false
open Go.Vm Go.Chs
theorem agw{l:List Nat}{k m:Nat}(h:k+m≤l.length):kc [none] (chunks 1 (nc l) k m)=some (ta ((l.drop k).take m)):=by
 rw[Il _ _ _ rfl (by simp;exact h)]
 have:(((nc l).drop k).take m).map (fun v=>[v])=((l.drop k).take m).map fun j=>[V.int .i64 ((fun n:Nat=>(n:Int)) j)]:=by
  simp[nc,dD,← List.map_drop,← List.map_take]
 rw[this];exact LQ _ _
theorem aob{l:List Nat}:(ta l).flatten=nc l:=by
 induction l with
 |nil=>rfl
 |cons a l ih=>simpa [nc,dD,ta] using ih
theorem aCx{l:List Nat}{k:Nat}:(nc l).take k=nc (l.take k):=by simp[nc,dD,GX]
theorem aCz{l m:List Nat}:nc l++nc m=nc (l++m):=by simp[nc,dD]
theorem aoc{i:Nat}{l:List Nat}:V.int .i64 (i:Int)::nc l=nc (i::l):=by simp[nc,dD]
theorem aCA{l:List Cd}(hl:l.length≤200):HO l:=fun G=>bM rfl rfl (by
  simp (disch:=omega) [-getElem?_pos,wrap64,aiG];refine go_loop (fun i:Nat=>awE (g5 l) i (g5 l) l.length i (nc (kK (iW l) (List.range i))) G) (fun i=>i≤l.length) (fun i=>l.length-i) 0 rfl (by simp[kK,arJ]) (by omega) ?_
  rintro i hi;have EX:(kK (iW l) (List.range i)).length=i:=Jg _;have hOv:∀(k y:Nat),(kK (iW l) (List.range i))[k]?=some y→y<i:=fun k y h=>((FL _).2 y).1 (fW h);have SJ:=(FL (rk:=iW l) i).1;have aCC:kK (iW l) (List.range (i+1))=rC (iW l) i (kK (iW l) (List.range i)):=ad4;generalize hO:kK (iW l) (List.range i)=O at *;simp (disch:=omega) [-getElem?_pos,wrap64,aiF];refine bT (fun h=>?_) (fun h=>?_)
  ·have h:i<l.length:=by omega
   have Nd:=bf h;simp (disch:=omega) [-getElem?_pos,wrap64,Nd];refine go_loop (fun k:Nat=>awB (g5 l) (.bR 20043 1 i) i k (g5 l) l.length i (nth l i).row (nc O) G) (fun k=>k≤i∧∀j y,k≤j→O[j]?=some y→iW l i<iW l y) (fun k=>k) i rfl (by simp) ⟨by omega,fun j y hj hy=>by rw[jT (by omega)]at hy;cases hy⟩ ?_
   rintro k ⟨hk,sH⟩;have fin:(∀y,0<k→O[k-1]?=some y→¬ iW l i<iW l y)→kK (iW l) (List.range (i+1))=O.take k++i::O.drop k:=fun h2=>by rw[aCC,arx SJ (by omega) sH h2]
   have q1:i≤O.length:=by omega
   by_cases z7:k=0
   ·subst z7
    have hf:=fin (fun y hy=>by omega)
    simp only[Zb,uY,Eg]at hf;have e0:kc [none] (chunks 1 (nc O) 0 i)=some (ta O):=by have:=agw (l:=O) (k:=0) (m:=i) (by omega);rwa [uY,mo (by omega)]at this
    by_cases ny:i=0
    ·have hO0:O=[]:=oo.1 (by omega)
     subst ny hO0;simp (disch:=omega) [-getElem?_pos,wrap64,Hk,arJ,chunks,kc];exact bP 1 (by simp[kK,rC,nc,dD]) (by omega) (by omega)
    ·have q3:1+O.length≤17592186044416:=by omega
     have q4:O.length≤4294967295:=by omega
     have q5:(O.length==0)=false:=A0.2 (by omega)
     simp (disch:=omega) [-getElem?_pos,wrap64,Hk,e0,q1,q3,q4,q5,ny,aob,aoc];exact bP (i+1) (by simp[hf,EX]) (by omega) (by omega)
   ·obtain⟨y,hy⟩:∃y,O[k-1]?=some y:=⟨_,fN (by omega)⟩
    have MT:y<l.length:=by have:=hOv _ _ hy;omega
    have c1:(nc O)[k-1]?=some (i64 (y:Int)):=Ji hy;have hgy:=bf MT;have t1:((k:Int)-1).toNat=k-1:=by omega
    have t3:(k:Int)-1<i:=by omega
    have t4:(1:Int)≤(k:Int):=by omega
    have t5:0<k:=by omega
    have t6:¬ (k:Int)=0:=by omega
    have t7:k≤i:=by omega
    have t8:O.length≤4294967295:=by omega
    have t9:1+O.length≤17592186044416:=by omega
    by_cases hr:iW l i<iW l y
    ·have Y5:(nth l i).rk<(nth l y).rk:=hr
     simp (disch:=omega) [-getElem?_pos,wrap64,Hk,t1,t3,t4,t5,c1,hgy,Y5];exact bP (k-1) (by simp;omega) ⟨by omega,fun j z hj hz=>by
      by_cases e:j=k-1
      ·subst e;rw[hy]at hz;cases hz;exact hr
      ·exact sH j z (by omega) hz⟩ (by omega)
    ·have Y5:¬ (nth l i).rk<(nth l y).rk:=hr
     have hf:=fin (fun z _ hz=>by rw[hy]at hz;cases hz;exact hr)
     by_cases E2:k=i
     ·subst E2
      have u1:k≤4294967295:=by omega
      have u2:nc O++[V.int .i64 (k:Int)]=nc (O++[k]):=by simp[nc,dD]
      have u3:O.take k++k::O.drop k=O++[k]:=by rw[mo (by omega),VK (by omega)]
      rw[u3]at hf;simp (disch:=omega) [-getElem?_pos,wrap64,Hk,t1,t3,t4,t5,t6,t8,c1,hgy,Y5,z7,EX,arJ,u1,u2];exact bP (k+1) (by simp[hf,EX]) (by omega) (by omega)
     ·have e0:kc [none] (chunks 1 (nc O) k (i-k))=some (ta (O.drop k)):=by have:=agw (l:=O) (k:=k) (m:=i-k) (by omega);rwa [mo (by simp;omega)]at this
      have q6:(k:Int)<i:=by omega
      have q7:((i:Int)-k).toNat=i-k:=by omega
      have q8:k+(i-k)≤O.length:=by omega
      have qa:(O.length==k)=false:=A0.2 (by omega)
      have qb:k≤O.length:=by omega
      have qc:k+(O.length-k+1)≤4294967296:=by omega
      have q9:1+(O.length-k)≤17592186044416:=by omega
      simp (disch:=omega) [-getElem?_pos,wrap64,Hk,t1,t3,t4,t5,c1,hgy,Y5,z7,q6,q7,q8,q1,q9,qa,qb,qc,e0,t6,t7,t8,t9,aob,aoc,aCx,aCz];exact bP (i+1) (by simp[hf,EX];omega) (by omega) (by omega)
  ·obtain rfl:i=l.length:=by omega
   have e1:kc [none] (chunks 1 (nc O) 0 l.length)=some (ta O):=by have:=agw (l:=O) (k:=0) (m:=l.length) (by omega);rwa [uY,mo (by omega)]at this
   have q1:l.length≤O.length:=by omega
   simp (disch:=omega) [-getElem?_pos,wrap64,e1,q1,hO])
end Go.Proofs.YtmppfkgfnnebeaaGreatDoor
namespace Go.Proofs.YtmppfkgfnnebeaaGreatDoor
set_option linter.all false
open Go.Vm Go.Chs
theorem aon{c:Cs}{f:Fl}{L:List (List Cd)}{p:Pn}{l:List Sp}{k:Nat}:∀{n:Nat},k≤n→∃R,nE c f L p l n=nE c f L p l k++R
 |0,h=>⟨[],by obtain rfl:k=0:=by omega
              simp⟩
 |n+1,h=>by
  by_cases e:k=n+1
  ·subst e;exact⟨[],by simp⟩
  ·obtain⟨R,h⟩:=aon (c:=c) (f:=f) (L:=L) (p:=p) (l:=l) (n:=n) (k:=k) (by omega)
   exact⟨R++r7 c (r8 c f L p l n) L c.s.length,by rw[nE,h,uW]⟩
theorem aoy{c:Cs}{f:Fl}{L:List (List Cd)}{k:Nat}:∀{n:Nat},k≤n→∃R,r7 c f L n=r7 c f L k++R
 |0,h=>⟨[],by obtain rfl:k=0:=by omega
              simp⟩
 |n+1,h=>by
  by_cases e:k=n+1
  ·subst e;exact⟨[],by simp⟩
  ·obtain⟨R,h⟩:=aoy (c:=c) (f:=f) (L:=L) (n:=n) (k:=k) (by omega)
   exact⟨R++xK f.t n (pI c f n (nth L n)).ys,by rw[r7,h,uW]⟩
theorem aCT{c:Cs}{f:Fl}{L:List (List Cd)}{p:Pn}{l:List Sp}{n k j m:Nat}(hk:k<n)(hj:j<c.s.length)(hm:m<(pI c (r8 c f L p l k) j (nth L j)).ys.length) :
  (nE c f L p l n)[(nE c f L p l k).length+(r7 c (r8 c f L p l k) L j).length+m]?=some ⟨(r8 c f L p l k).t,j,((nth (pI c (r8 c f L p l k) j (nth L j)).ys m).1:Nat),(nth (pI c (r8 c f L p l k) j (nth L j)).ys m).2⟩:=by
 obtain⟨R1,h1⟩:=aon (c:=c) (f:=f) (L:=L) (p:=p) (l:=l) (k:=k+1) (n:=n) hk;obtain⟨R2,h2⟩:=aoy (c:=c) (f:=r8 c f L p l k) (L:=L) (k:=j+1) (n:=c.s.length) hj;rw[h1,nE,h2,r7];generalize nE c f L p l k=A;generalize r7 c (r8 c f L p l k) L j=B;generalize (pI c (r8 c f L p l k) j (nth L j)).ys=Y at *;simp only[uW];rw[qg (by omega),qg (by omega),nG (by simp[xK];omega)]
 have e:A.length+B.length+m-A.length-B.length=m:=by omega
 rw[e];simp[xK,nth,List.getD,hm]
structure aoz(c:Cs)(f:Fl)(L:List (List Cd))(t w:List Int)(W:List Vi)(n j:Nat)(Y:List (Nat×Int)):Prop where
 lev:∀G,aZ F 16 [dm (nth c.s j).d,dst (nth f.d j)] G=some (.tuple [i64 (rY c f j),i64 (dE (nth c.s j).d (nth f.d j))],G)
 cho:∃lo hi,∀G,aZ F 17 [g5 (nth L j),i64 (rW f.t),i64 (rY c f j),i64 (nth f.d j).rel,.agg [i64 0,i64 1073741824],i64 (nth w j)] G=some (.tuple [.agg [i64 (nth t j),i64 lo,i64 hi,.slice (some 0) 2 (oM Y)],i64 0],G)
 kep:∃K,∀G,aZ F 18 [g5 (nth L j),i64 (rW f.t),i64 (rY c f j),i64 (nth f.d j).rel,i64 (nth t j)] G=some (.tuple [.slice (some 0) 1 K,.slice (some 0) 1 (ta (Y.map (·.1))),i64 0],G)
 at_:∀m,m<Y.length→W[n+m]?=some ⟨f.t,j,((nth Y m).1:Nat),(nth Y m).2⟩
theorem aCV{c:Cs}{f:Fl}{L:List (List Cd)}{p:Pn}{l:List Sp}(h:Mk c f L p l)(hL:L.length=c.s.length)(mT:∀i,i<L.length→(nth L i).length≤19){k j:Nat}(hk:k<l.length)(hj:j<c.s.length) :
  aoz c (r8 c f L p l k) L (mE c (r8 c f L p l k) L (nth p.l k) c.s.length) (nth p.l k) (nE c f L p l l.length) ((nE c f L p l k).length+(r7 c (r8 c f L p l k) L j).length) j (pI c (r8 c f L p l k) j (nth L j)).ys:=by
 have jk:=h.fl (k:=k) (by omega)
 have hoc:=(U9 h.w mT).2 j (by omega)
 have hA:=hoc.at_ (c:=c) (i:=j) jk;have hO:HO (nth L j):=aCA (by have:=mT j (by omega);omega)
 have hr:0≤(nth (r8 c f L p l k).d j).rel∧(nth (r8 c f L p l k).d j).rel≤1073741824:=(jk.2.1.2 j hj).2.2.1;have hw:0≤nth (nth p.l k) j∧nth (nth p.l k) j≤1073741824:=by
  have h1:=h.b.e k hk;have:=h1.2 j (by omega)
  omega
 have hv:=Ob (l:=nth L j) jk hj;have ht:=awg (L:=L) (T:=nth p.l k) jk hj;have hm9:=fun(m:Nat)=>aCT (c:=c) (f:=f) (L:=L) (p:=p) (l:=l) (n:=l.length) (k:=k) (j:=j) (m:=m) hk hj;generalize r8 c f L p l k=g at *;have e1:nth (mE c g L (nth p.l k) c.s.length) j=mA (pI c g j (nth L j)) (nth (nth p.l k) j):=Vp hj;refine⟨JO _ _,?_,?_,fun m hm=>hm9 m hm⟩
 ·have x1:=aCv hA hO hr hw (lo:=0) (hi:=1073741824) (by omega)
  rw[e1];exact⟨_,_,x1⟩
 ·have h1:=aCo hA hO hr ht
  have h2:B9 (nth L j) (rW g.t) (rY c g j) (nth g.d j).rel (nth (mE c g L (nth p.l k) c.s.length) j)=(pI c g j (nth L j)).ys.map (·.1):=by
   have r1:=Tj hv (nth (nth p.l k) j);rw[e1,← art hv r1.1 r1.2];refine GQ fun i hi=>?_;simp[keeps,AF,hi]
  rw[h2]at h1;exact⟨_,h1⟩
theorem aC8{c:Cs}{f:Fl}(hr:lh c.r)(D6:oe f){pl:List (List Int)}{q:List Sp}{L:List (List Cd)}(hL:L.length=c.s.length)(BX:L.length≤1000)(Oc:∀i,i<L.length→(nth L i).length≤6)(he:xM c f L ⟨f.t,pl⟩ q=0)
  (eg:∀k,k<q.length→(nth q k).a.length≤1000∧(nth q k).b.length≤1000) :
  ∃(fs:Nat→Fl) (M:List (List Int)) (W:List Vi) (NV:Nat→Nat) (NS:Nat→Nat→Nat) (Y:Nat→Nat→List (Nat×Int)),fs 0=f∧pl.length=q.length∧M.length=q.length∧NV 0=0∧NV q.length=W.length∧W.length≤1000000 ∧
   (∃G1,aZ F 14 [cs c,fl f,r0 L,.agg [i64 f.t,lH pl],oj q] []=some (.tuple [.agg [i64 f.t,lH M],ub W,i64 0],G1)) ∧
   ∀k,k<q.length→(∀G,aZ F 15 [i64 (fs k).t] G=some (.tuple [i64 (rW (fs k).t),i64 0],G))∧(nth pl k).length=c.s.length∧(nth M k).length=c.s.length∧(fs k).d.length=c.s.length ∧
    NS k 0=0∧NV (k+1)=NV k+NS k c.s.length∧(∃(P:Ps) (G':List aS),aZ F 19 [cs c,fl (fs k),sv ⟨(nth q k).a,(nth q k).b,nth M k⟩] []=some (.tuple [fl (fs (k+1)),ps P,i64 0],G')) ∧
    ∀j,j<c.s.length→NS k (j+1)=NS k j+(Y k j).length∧aoz c (fs k) L (nth M k) (nth pl k) W (NV k+NS k j) j (Y k j):=by
 have mT:∀i,i<L.length→(nth L i).length≤19:=fun i hi=>by have:=Oc i hi;omega
 have hk:=awj he;have cv:=qe hk.b.c0;have Pp:(nE c f L ⟨f.t,pl⟩ q q.length).length≤1000000:=by
  have h6:=Ve hk.b.c0;have h96:=hk.b.di;have h1:=Vb (f:=f) (p:=⟨f.t,pl⟩) (l:=q) hL (U9 hk.w mT).2 q.length;have:19*c.s.length*q.length≤19*6*96:=Ek (by omega) (by omega)
  omega
 refine⟨r8 c f L ⟨f.t,pl⟩ q,je c f L ⟨f.t,pl⟩ q q.length,nE c f L ⟨f.t,pl⟩ q q.length,fun k=>(nE c f L ⟨f.t,pl⟩ q k).length,fun k j=>(r7 c (r8 c f L ⟨f.t,pl⟩ q k) L j).length,fun k j=>(pI c (r8 c f L ⟨f.t,pl⟩ q k) j (nth L j)).ys,
  rfl,hk.b.len.symm,Va,rfl,rfl,Pp,(Vg hr D6 ⟨f.t,pl⟩ q BX mT).1 he,fun k I4=>?_⟩
 have jk:=hk.fl (k:=k) (by omega)
 have e0:nth (je c f L ⟨f.t,pl⟩ q q.length) k=mE c (r8 c f L ⟨f.t,pl⟩ q k) L (nth pl k) c.s.length:=D4 I4;refine⟨aB9 jk.1,(hk.b.e k I4).1,by rw[e0,U3],jk.2.1.1,rfl,by simp[nE],?_,fun j hj=>⟨by simp[r7,xK],?_⟩⟩
 ·have hra:=(avx hk.r).v k (by rw[NX];exact I4)
  rw[JY k (by omega),agJ I4]at hra
  obtain⟨G',hS⟩:=au8 hr (UU cv.k jk) (p:=⟨(nth q k).a,(nth q k).b,nth (je c f L ⟨f.t,pl⟩ q q.length) k⟩) (by
   have:=eg k I4;have:=Ve hk.b.c0;rw[e0,U3];simp only;omega)
  have fU:oO c (r8 c f L ⟨f.t,pl⟩ q k) ⟨(nth q k).a,(nth q k).b,nth (je c f L ⟨f.t,pl⟩ q q.length) k⟩=0:=by rw[UX hk.b.c0 jk];exact hra
  rw[xJ,aM fU]at hS;have e5:r8 c f L ⟨f.t,pl⟩ q (k+1)=tZ c (r8 c f L ⟨f.t,pl⟩ q k) ⟨(nth q k).a,(nth q k).b,nth (je c f L ⟨f.t,pl⟩ q q.length) k⟩:=by rw[e0];rfl
  rw[e5];exact⟨_,G',hS⟩
 ·rw[e0]
  exact aCV hk hL mT I4 hj
end Go.Proofs.YtmppfkgfnnebeaaGreatDoor
namespace Go.Proofs.YtmppfkgfnnebeaaGreatDoor
set_option linter.all false
open Go.Vm
attribute [local simp] lZ l7 lX lY
set_option maxRecDepth 100000 in
set_option maxHeartbeats 2000000 in
theorem aC9{l:List Int}(hl:l.length≤9223372036854775807):∃G',aZ F 3 [ints l] []=some (.bool true,G'):=by
 suffices h:gA (aZ F) 3 [ints l] [] fun v _=>v=.bool true by
  obtain⟨_,G,h,rfl⟩:=h;exact⟨G,h⟩
 refine gM rfl rfl ?_;obtain⟨Gs,Vy⟩:=awy;by_cases h1:l.length≤500
 case neg=>simp (disch:=omega) [-getElem?_pos,wrap64,SI,Vy,SN,h1]
 obtain⟨c,f,k1,n1,gR,J5,jk,_⟩:=avv (l:=l) (k:=0) ⟨by omega,hl⟩
 have hz:=J5.mc;have cv:=qe hz;have D0:=J5.small;have hn6:=J5.n;have U7:=J5.s;have jQ:=(oh cv.k).n;have D6:=UU cv.k jk;obtain⟨m,k2,n2,eZ,hm⟩:=fk gR 6 (by omega)
 obtain⟨pl,k3,n3,kI,my⟩:=av0 eZ (c:=c) (by omega) (by omega) f.t (n:=m.toNat) (by omega)
 obtain⟨q,k4,n4,qH,hq,hqs⟩:=avz kI (c:=c) (by omega) (by omega) (n:=m.toNat) (by omega)
 rw[VI hm.1]at n3 n4;obtain⟨L,k5,n5,Ap,hL,Oc⟩:=awq qH (c:=c) (by omega)
 have mT:∀i,i<L.length→(nth L i).length≤19:=fun i hi=>by have:=Oc i hi;omega
 have BX:L.length≤1000:=by omega
 have y0:=(Vg D0 D6 ⟨f.t,pl⟩ q BX mT).2;by_cases he:xM c f L ⟨f.t,pl⟩ q=0
 case neg =>
  obtain⟨t,u,G1,e0⟩:=y0 he;generalize xM c f L ⟨f.t,pl⟩ q=E at *;have UP:(E != 0)=true:=by simp[he]
  simp (disch:=omega) [-getElem?_pos,wrap64,SI,Vy,SN,h1,adB,n1,n2,n3,n4,n5,e0,UP]
 obtain⟨fs,M,W,NV,NS,Y,Ul,vA,hM,hN0,hNq,hWl,⟨G1,hR⟩,sH⟩:=aC8 D0 D6 hL BX Oc he (fun k hk=>by
  obtain⟨e1,e2,_⟩:=(hqs k (by omega)).1
  omega)
 clear y0 he jk J5 hz cv D0 D6
 simp (config:={ maxSteps:=2000000 }) +contextual (disch:=omega) [-getElem?_pos,-List.length_eq_zero_iff,-Int.natCast_eq_zero,wrap64,SI,Vy,SN,h1,adB,n1,n2,n3,n4,n5,hR];refine go_loop (fun p:Nat×Nat=>auV m (oj q) (r0 L) (ub W) p.2 (lH M) M.length p.1 c.row (fs p.1).row [i64 f.t,lH pl] [i64 f.t,lH M] [dk l k5]) (fun p=>p.1≤q.length∧p.2=NV p.1) (fun p=>q.length-p.1) (0,0) rfl (by simp[Ul]) ⟨by simp,hN0.symm⟩ ?_
 rintro⟨i,N⟩ ⟨hi,hN⟩;simp only at hi hN
 clear hR n1 n2 n3 n4 n5
 simp (disch:=omega) [-getElem?_pos,wrap64,ahs];refine bT (fun h=>?_) (fun h=>?_)
 case refine_2 =>
  obtain rfl:i=q.length:=by omega
  obtain rfl:N=W.length:=by omega
  have hmM:(M.length:Int)=m:=by omega
  simp (disch:=omega) [-getElem?_pos,wrap64,hmM]
 have h:i<q.length:=by omega
 obtain⟨aoB,hpw,hMl,LI,hs0,hsv,⟨P,G',M9⟩,avm⟩:=sH i h;have hgM:=bf (l:=M) (i:=i) (by omega)
 have hgq:=bf (l:=q) h;have hgp:=bf (l:=pl) (i:=i) (by omega)
 generalize nth M i=T at *;generalize nth pl i=w at *;generalize nth q i=s at *;generalize X7:fs (i+1)=g' at *;generalize fs i=g at *;simp (disch:=omega) [-getElem?_pos,wrap64,hgM,aoB];refine go_loop (fun p:Nat×Nat=>auP m (oj q) (r0 L) (ub W) p.2 i (ints T) (rW g.t) (lH M) M.length i (tX c.s) c.s.length p.1 c.row g.row [i64 f.t,lH pl] [i64 f.t,lH M] [dk l k5]) (fun p=>p.1≤c.s.length∧p.2=NV i+NS i p.1) (fun p=>c.s.length-p.1) (0,N) rfl (by simp) ⟨by simp,by simp;omega⟩ ?_
 rintro⟨j,N2⟩ ⟨hj,hN2⟩;simp only at hj hN2;simp (disch:=omega) [-getElem?_pos,wrap64,ahr];refine bT (fun h2=>?_) (fun h2=>?_)
 case refine_2 =>
  obtain rfl:j=c.s.length:=by omega
  simp (disch:=omega) [-getElem?_pos,wrap64,hgq,M9];exact bP (i+1,N2) (by simp[X7]) ⟨by simp;omega,by simp;omega⟩ (by simp;omega)
 have h2:j<c.s.length:=by omega
 obtain⟨aFz,lev,⟨lo,hi,cho⟩,⟨K,kep⟩,hat⟩:=avm j h2;rw[←hN2]at hat;generalize Y i j=y at *;have hgT:=ei (l:=T) (i:=j) (by omega)
 have hgw:=ei (l:=w) (i:=j) (by omega)
 simp (disch:=omega) [-getElem?_pos,wrap64,bf (l:=c.s),bf (l:=g.d),bf (l:=L),hgp,hgT,hgw,lev,cho,kep];refine go_loop (fun p:Nat×Nat=>auM m (oj q) (r0 L) (ub W) p.2 i (ints T) (rW g.t) j (lH M) M.length i (tX c.s) c.s.length j (.slice none 1 (ta (y.map (·.1)))) y.length p.1 c.row g.row [i64 f.t,lH pl] [i64 f.t,lH M] [dk l k5]) (fun p=>p.1≤y.length∧p.2=N2+p.1) (fun p=>y.length-p.1) (0,N2) rfl (by simp) ⟨by simp,by simp⟩ ?_
 rintro⟨k,N3⟩ ⟨hk,hN3⟩;simp only at hk hN3
 clear hgM hgp hgq hgT hgw lev cho kep M9 aoB
 simp (disch:=omega) [-getElem?_pos,wrap64,ahk];refine bT (fun h3=>?_) (fun h3=>?_)
 ·have h3:k<y.length:=by omega
  have hW:=hat k h3;rw[←hN3]at hW;have bE:N3<W.length:=(wE.1 hW).1;have EP:(ta (y.map (·.1)))[k]?=some [i64 ((nth y k).1:Nat)]:=by simp[ta,nth,List.getD,h3]
  have uo:¬ W.length≤N3:=by omega
  have hw1:IntKind.i64.wrap ((N3:Int)+1)=(N3:Int)+1:=wrap64 (by omega) (by omega)
  have uC:IntKind.i64.wrap ((k:Int)+1)=(k:Int)+1:=wrap64 (by omega) (by omega)
  generalize nth y k=z at *;simp (disch:=omega) [-getElem?_pos,wrap64,EP,hW,uo,hw1,uC];exact bP (k+1,N3+1) (by simp[hw1,uC]) ⟨by simp;omega,by simp;omega⟩ (by simp;omega)
 ·obtain rfl:k=y.length:=by omega
  exact bP (j+1,N3) (by simp) ⟨by simp;omega,by simp;omega⟩ (by simp;omega)
end Go.Proofs.YtmppfkgfnnebeaaGreatDoor

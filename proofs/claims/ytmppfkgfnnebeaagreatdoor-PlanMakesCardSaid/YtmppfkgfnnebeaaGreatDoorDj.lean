/- Parts of the proof. -/
import Derived.Test.YtmppfkgfnnebeaaGreatDoorDh
import Derived.Test.YtmppfkgfnnebeaaGreatDoorDi
import Derived.Test.YtmppfkgfnnebeaaGreatDoorDa
namespace Go.Proofs.YtmppfkgfnnebeaaGreatDoor
set_option linter.all false
open Go.Vm Go.Chs
theorem Ob{c:Cs}{f:Fl}{i:Nat}{l:List Cd}(hf:eR c f)(hi:i<c.s.length) :
  Inv (AF (qd l (nth f.d i).rel) (lg l (rW f.t) (rY c f i))) 0 1073741824 (lg l (rW f.t) (rY c f i)) (pI c f i l):=by
 have hr:0≤(nth f.d i).rel∧(nth f.d i).rel≤1073741824:=(hf.2.1.2 i hi).2.2.1;exact afo (fun j hj=>(afm (T3 (r9.1 hj).2) hr).2.1) (by omega)
theorem Vp{c:Cs}{f:Fl}{L:List (List Cd)}{T:List Int}{n i:Nat}(h:i<n):nth (mE c f L T n) i=mA (pI c f i (nth L i)) (nth T i):=by simp[nth,mE,List.getD,h]
theorem ahc{c:Cs}{f:Fl}(hf:eR c f){L:List (List Cd)}{T:List Int}:mE c f L (mE c f L T c.s.length) c.s.length=mE c f L T c.s.length :=
 Ee fun i hi=>by
  have hi:i<c.s.length:=by simpa using hi
  rw[Vp hi,arq (Ob hf hi)]
theorem awg{c:Cs}{f:Fl}(hf:eR c f){L:List (List Cd)}{T:List Int}{i:Nat}(hi:i<c.s.length):0≤nth (mE c f L T c.s.length) i∧nth (mE c f L T c.s.length) i≤1073741824:=by
 have h:=Ob (l:=nth L i) hf hi;have h1:=Tj h (nth T i);have h2:=h.a;have h3:=h.z;rw[Vp hi];omega
theorem awh{c:Cs}{f:Fl}(hf:eR c f){i:Nat}(hi:i<c.s.length){l:List Cd}{w:Int}:brk c f i l (mA (pI c f i l) w)=xK f.t i (pI c f i l).ys:=by
 have h:=Ob (l:=l) hf hi;have h1:=Tj h w;have hb:=art h h1.1 h1.2;have hn:(lg l (rW f.t) (rY c f i)).Nodup:=ary ad1;have hv:B9 l (rW f.t) (rY c f i) (nth f.d i).rel (mA (pI c f i l) w)=(pI c f i l).ys.map (·.1):=by
  rw[←hb];refine GQ fun j hj=>?_;simp[keeps,AF,hj]
 unfold brk xK;rw[hv,wG]
 conv=>rhs;rw[←arA (arz h hn),wG,wG]
 rfl
theorem ahd{c:Cs}{f:Fl}(hf:eR c f){L:List (List Cd)}{T:List Int}:∀n,n≤c.s.length→wB c f L (mE c f L T c.s.length) n=r7 c f L n
 |0,_=>rfl
 |n+1,h=>by
  simp only[wB,r7];rw[ahd hf n (by omega),Vp (by omega),awh hf (by omega)]
theorem awi{c:Cs}{f:Fl}{p:Pn}{n:Nat}(h0:e8 c=0)(hf:eR c f)(ht:p.f=f.t)(hl:n=p.l.length)(hm:n≤96)(he:∀i,i<n→(nth p.l i).length=c.s.length∧fa (nth p.l i) 1073741824):om c f p n=0:=by
 have hp:wA c p=0:=by
  unfold wA;have:=hf.1;rw[ay (fun g=>g h0),aM (by omega),ay (by omega)]
  refine sL fun i _ hi=>?_;obtain⟨a,b⟩:=he i (by omega)
  unfold JX;rw[aM a,aM b]
 unfold om;rw[ay (fun g=>g hp),aM hf,aM ht,aM hl]
structure Mk(c:Cs)(f:Fl)(L:List (List Cd))(p:Pn)(l:List Sp):Prop where
 b:Bg c f p l.length
 w:xL c L=0
 r:jc c f (mS c f L p l)=0
theorem awj{c:Cs}{f:Fl}{L:List (List Cd)}{p:Pn}{l:List Sp}(h:xM c f L p l=0):Mk c f L p l:=by
 unfold xM at h;split at h
 ·rename_i g;exact absurd h g
 split at h
 ·rename_i g;exact absurd h g
 ·rename_i g1 g2
  exact⟨NZ (g7 g1),g7 g2,h⟩
theorem Mk.fl{c:Cs}{f:Fl}{L:List (List Cd)}{p:Pn}{l:List Sp}(h:Mk c f L p l){k:Nat}(hk:k≤l.length):eR c (r8 c f L p l k):=by
 have h1:=(avx h.r).at_ (k:=k) (by rw[NX];exact hk)
 rw[JY k hk]at h1;exact h1
theorem Vq{c:Cs}{f:Fl}{L:List (List Cd)}{p:Pn}{l:List Sp}(h:Mk c f L p l):∀k,k≤l.length→r8 c f L ⟨p.f,je c f L p l l.length⟩ l k=r8 c f L p l k
 |0,_=>rfl
 |k+1,hk=>by
  simp only[r8];rw[Vq h k (by omega),D4 (by omega),ahc (h.fl (by omega))]
theorem ahe{c:Cs}{f:Fl}{L:List (List Cd)}{p:Pn}{l:List Sp}(h:Mk c f L p l):je c f L ⟨p.f,je c f L p l l.length⟩ l l.length=je c f L p l l.length :=
 Ee fun k hk=>by
  have hk:k<l.length:=by simpa using hk
  rw[Vq h k (by omega),D4 hk,ahc (h.fl (by omega))]
theorem ahf{c:Cs}{f:Fl}{L:List (List Cd)}{p:Pn}{l:List Sp}(h:Mk c f L p l):∀k,k≤l.length→nE c f L ⟨p.f,je c f L p l l.length⟩ l k=nE c f L p l k
 |0,_=>rfl
 |k+1,hk=>by
  simp only[nE];rw[ahf h k (by omega),Vq h k (by omega)]
theorem Mk.bg{c:Cs}{f:Fl}{L:List (List Cd)}{p:Pn}{l:List Sp}(h:Mk c f L p l):om c f ⟨p.f,je c f L p l l.length⟩ l.length=0 :=
 awi h.b.c0 h.b.f0 h.b.t (by simp[Va]) h.b.di fun i hi=>by
  show(nth (je c f L p l l.length) i).length=_∧fa (nth (je c f L p l l.length) i) _;rw[D4 hi,U3];exact⟨rfl,fun j hj=>by
   rw[U3]at hj;exact awg (h.fl (by omega)) hj⟩
theorem awk{c:Cs}{f:Fl}{L:List (List Cd)}{p:Pn}{l:List Sp}(h:Mk c f L p l):xM c f L ⟨p.f,je c f L p l l.length⟩ l=0:=by
 unfold xM;rw[ay (fun g=>g h.bg),ay (fun g=>g h.w)];show jc c f (jd ⟨p.f,je c f L ⟨p.f,je c f L p l l.length⟩ l l.length⟩ l)=0;rw[ahe h];exact h.r
theorem ahh{c:Cs}{f:Fl}{L:List (List Cd)}{p:Pn}{l:List Sp}(h:Mk c f L p l):∀k,k≤l.length→xN c f L ⟨p.f,je c f L p l l.length⟩ l k=nE c f L p l k
 |0,_=>rfl
 |k+1,hk=>by
  simp only[xN,nE];rw[ahh h k (by omega),show jd ⟨p.f,je c f L p l l.length⟩ l=mS c f L p l from rfl,JY k (by omega),D4 (by omega),ahd (h.fl (by omega)) _ (bV _)]
theorem ahi{c:Cs}{f:Fl}{L:List (List Cd)}{p:Pn}{l:List Sp}:∀k,k≤l.length→(r8 c f L p l k).t=f.t+k:=fun k hk=>by
 rw[←JY k hk,ahb]
theorem ahj{c:Cs}{f:Fl}{L:List (List Cd)}{x:Vi}:∀{n:Nat},x∈r7 c f L n→∃(i a:Nat) (y:Int),i<n∧(a,y)∈(pI c f i (nth L i)).ys∧x=⟨f.t,i,a,y⟩
 |0,h=>by simp[r7]at h
 |n+1,h=>by
  rcases ot.1 h with h|h
  ·obtain⟨i,a,y,h1,h2,h3⟩:=ahj h
   exact⟨i,a,y,by omega,h2,h3⟩
  ·obtain⟨⟨a,y⟩,h1,h2⟩:=kP.1 h
   exact⟨n,a,y,by omega,h1,h2.symm⟩
theorem Vr{c:Cs}{f:Fl}{L:List (List Cd)}{p:Pn}{l:List Sp}{x:Vi}:∀{n:Nat},x∈nE c f L p l n→∃(k i a:Nat) (y:Int),k<n∧i<c.s.length∧(a,y)∈(pI c (r8 c f L p l k) i (nth L i)).ys∧x=⟨(r8 c f L p l k).t,i,a,y⟩
 |0,h=>by simp[nE]at h
 |n+1,h=>by
  rcases ot.1 h with h|h
  ·obtain⟨k,i,a,y,h1,h2⟩:=Vr h
   exact⟨k,i,a,y,by omega,h2⟩
  ·obtain⟨i,a,y,h1,h2,h3⟩:=ahj h
   exact⟨n,i,a,y,by omega,h1,h2,h3⟩
structure Vs(L:List (List Cd))(V:List Vi)(x:Vi):Prop where
 w:∃i a:Nat,x.s=i∧i<L.length∧x.c=a∧a<(nth L i).length∧(x.b = -1∨∃j:Nat,x.b=j∧j<(nth L i).length∧Ord (iW (nth L i)) j a∧∀y∈V,¬ (y.t=x.t∧y.s=x.s∧y.c=x.b))
theorem awl{c:Cs}{f:Fl}{L:List (List Cd)}{p:Pn}{l:List Sp}(h:Mk c f L p l)(hL:L.length=c.s.length){x:Vi}(hx:x∈nE c f L p l l.length):Vs L (nE c f L p l l.length) x:=by
 obtain⟨k,i,a,y,hk,hi,hy,rfl⟩:=Vr hx;have hv:=Ob (l:=nth L i) (h.fl (k:=k) (by omega)) hi
 have ha:a<(nth L i).length:=by
  have:a∈(pI c (r8 c f L p l k) i (nth L i)).ys.map (·.1):=kP.2 ⟨_,hy,rfl⟩
  rw[hv.ys]at this;exact afk (r9.1 this).1
 refine⟨i,a,rfl,by omega,rfl,ha,?_⟩
 refine(arw hv hy).imp id fun⟨j,h1,h2,h3,h4⟩=>⟨j,h1,h2,h4,fun z hz ⟨g1,g2,g3⟩=>?_⟩;obtain⟨k',i',a',y',ke,pT,wY,rfl⟩:=Vr hz;simp only at g1 g2 g3;rw[ahi k (by omega),ahi k' (by omega)]at g1
 obtain rfl:k'=k:=by omega
 obtain rfl:i'=i:=by omega
 subst h1;obtain rfl:a'=j:=by omega
 exact h3 (kP.2 ⟨_,wY,rfl⟩)
end Go.Proofs.YtmppfkgfnnebeaaGreatDoor
namespace Go.Proofs.YtmppfkgfnnebeaaGreatDoor
set_option linter.all false
open Go.Vm
attribute [local simp] lZ l7 lX lY
theorem awm{l:List Int}{k:Nat}(hd:c9 l k):∃a b k',aZ F 121 [.bm 0 0] [dk l k]=some (.agg [i64 a,i64 b],[dk l k'])∧c9 l k':=by
 suffices h:∀Q:V→List aS→Prop,(∀a b k',c9 l k'→Q (.agg [i64 a,i64 b]) [dk l k'])→gA (aZ F) 121 [.bm 0 0] [dk l k] Q by
  obtain⟨_,_,h,a,b,k',rfl,rfl,h1⟩:=h (fun v G=>∃a b k',v=.agg [i64 a,i64 b]∧G=[dk l k']∧c9 l k') fun a b k' h=>⟨a,b,k',rfl,rfl,h⟩;exact⟨a,b,k',h,h1⟩
 intro Q hQ;refine gM rfl rfl ?_;obtain⟨m,k1,n1,gR,hm⟩:=fk hd 4 (by omega)
 by_cases h0:m=0
 ·simp +contextual (disch:=omega) [-getElem?_pos,-List.length_eq_zero_iff,-Int.natCast_eq_zero,wrap64,Mm,n1,h0]
  exact hQ _ _ _ gR
 by_cases h1:m=1
 ·obtain⟨m2,k2,n2,eZ,_⟩:=fk gR 10 (by omega)
  obtain⟨m3,k3,n3,kI,_⟩:=fk eZ 10 (by omega)
  simp +contextual (disch:=omega) [-getElem?_pos,-List.length_eq_zero_iff,-Int.natCast_eq_zero,wrap64,Mm,n1,h0,h1,n2,n3];exact hQ _ _ _ kI
 ·obtain⟨m2,k2,n2,eZ,_⟩:=fk gR 365 (by omega)
  obtain⟨m3,k3,n3,kI,_⟩:=fk eZ 365 (by omega)
  simp +contextual (disch:=omega) [-getElem?_pos,-List.length_eq_zero_iff,-Int.natCast_eq_zero,wrap64,Mm,n1,h0,h1,n2,n3];exact hQ _ _ _ kI
theorem awn{l:List Int}{k:Nat}(hd:c9 l k):∃(x:Cd) (k':Nat),aZ F 80 [.bm 0 0] [dk l k]=some (.agg x.row,[dk l k'])∧c9 l k':=by
 suffices h:∀Q:V→List aS→Prop,(∀(x:Cd) k',c9 l k'→Q (.agg x.row) [dk l k'])→gA (aZ F) 80 [.bm 0 0] [dk l k] Q by
  obtain⟨_,_,h,x,k',rfl,rfl,h1⟩:=h (fun v G=>∃(x:Cd) (k':Nat),v=.agg x.row∧G=[dk l k']∧c9 l k') fun x k' h=>⟨x,k',rfl,rfl,h⟩;exact⟨x,k',h,h1⟩
 intro Q hQ;refine gM rfl rfl ?_;obtain⟨m1,k1,n1,gR,FJ⟩:=fk hd 4 (by omega)
 obtain⟨m2,k2,n2,eZ,MP⟩:=fk gR 4 (by omega)
 obtain⟨m3,k3,n3,kI,Jc⟩:=fk eZ 30 (by omega)
 obtain⟨a,b,k4,n4,qH⟩:=awm kI;obtain⟨m5,k5,n5,Ap,hm5⟩:=fk qH 3 (by omega)
 by_cases h0:m5=0
 ·obtain⟨m6,k6,n6,DD,hm6⟩:=fk Ap 60 (by omega)
  obtain⟨m7,k7,n7,Td,hm7⟩:=fk DD 80 (by omega)
  simp +contextual (disch:=omega) [-getElem?_pos,-List.length_eq_zero_iff,-Int.natCast_eq_zero,wrap64,RF,n1,n2,n3,n4,n5,h0,n6,n7];exact hQ ⟨1+m1,1+m2,m3,a,b,90+m6,90+m6+m7⟩ _ Td
 ·have JI:(m5==0)=false:=by simp[h0]
  simp +contextual (disch:=omega) [-getElem?_pos,-List.length_eq_zero_iff,-Int.natCast_eq_zero,wrap64,RF,n1,n2,n3,n4,n5,JI];exact hQ ⟨1+m1,1+m2,m3,a,b,0,16777216⟩ _ Ap
abbrev Vt(l:List Cd):V:=.slice (some 0) 7 (l.map Cd.row)
theorem awp{l:List Int}{k:Nat}(hd:c9 l k):∃(x:List Cd) (k':Nat),aZ F 39 [.bm 0 0] [dk l k]=some (Vt x,[dk l k'])∧c9 l k'∧x.length≤6:=by
 suffices h:∀Q:V→List aS→Prop,(∀(x:List Cd) k',c9 l k'→x.length≤6→Q (Vt x) [dk l k'])→gA (aZ F) 39 [.bm 0 0] [dk l k] Q by
  obtain⟨_,_,h,x,k',rfl,rfl,h1⟩:=h (fun v G=>∃(x:List Cd) (k':Nat),v=Vt x∧G=[dk l k']∧c9 l k'∧x.length≤6) fun x k' h h2=>⟨x,k',rfl,rfl,h,h2⟩;exact⟨x,k',h,h1⟩
 intro Q hQ;refine gM rfl rfl ?_;obtain⟨m,k1,n1,gR,hm⟩:=fk hd 7 (by omega)
 simp +contextual (disch:=omega) [-getElem?_pos,-List.length_eq_zero_iff,-Int.natCast_eq_zero,wrap64,Z1,n1];refine go_loop (fun y:List Cd×Nat=>amp (.bm 0 0) (.slice (some 1015) 7 (y.1.map Cd.row)) (m-y.1.length) y.1.length [dk l y.2]) (fun y=>(y.1.length:Int)≤m∧c9 l y.2) (fun y=>(m-y.1.length).toNat) ([],k1) rfl (by simp) ⟨by simp;omega,gR⟩ ?_
 rintro⟨x,k⟩ ⟨h1,hd⟩;simp only at h1 hd;simp +contextual (disch:=omega) [-getElem?_pos,-List.length_eq_zero_iff,-Int.natCast_eq_zero,wrap64,Z0];refine bT (fun h5=>?_) (fun h5=>?_)
 ·obtain⟨c,k2,n2,eZ⟩:=awn hd
  have hx:x.length≤2513169434915:=by omega
  simp +contextual (disch:=omega) [-getElem?_pos,-List.length_eq_zero_iff,-Int.natCast_eq_zero,wrap64,n2,hx];exact bP (x++[c],k2) (by simp;omega) ⟨by simp;omega,eZ⟩ (by simp;omega)
 ·exact hQ x k hd (by omega)
abbrev Vu(L:List (List Cd)):V:=.slice (some 0) 1 (L.map fun l=>[g5 l])
theorem awq{l:List Int}{k:Nat}(hd:c9 l k){c:Cs}(hs:c.s.length≤1000):∃(L:List (List Cd)) (k':Nat),aZ F 13 [.bm 0 0,cs c] [dk l k]=some (Vu L,[dk l k'])∧c9 l k'∧L.length=c.s.length∧∀i,i<L.length→(nth L i).length≤6:=by
 suffices h:∀Q:V→List aS→Prop,(∀(x:List (List Cd)) k',c9 l k'→x.length=c.s.length→(∀i,i<x.length→(nth x i).length≤6)→Q (Vu x) [dk l k'])→gA (aZ F) 13 [.bm 0 0,cs c] [dk l k] Q by
  obtain⟨_,_,h,x,k',rfl,rfl,h1⟩:=h (fun v G=>∃(x:List (List Cd)) (k':Nat),v=Vu x∧G=[dk l k']∧c9 l k'∧x.length=c.s.length∧∀i,i<x.length→(nth x i).length≤6) fun x k' h h2 h3=>⟨x,k',rfl,rfl,h,h2,h3⟩;exact⟨x,k',h,h1⟩
 intro Q hQ;refine gM rfl rfl ?_;simp +contextual (disch:=omega) [-getElem?_pos,-List.length_eq_zero_iff,-Int.natCast_eq_zero,wrap64,ZK];refine go_loop (fun y:List (List Cd)×Nat=>al0 (.bm 0 0) (.slice (some 1015) 1 (y.1.map fun l=>[g5 l])) c.s.length y.1.length y.1.length [dk l y.2]) (fun y=>y.1.length≤c.s.length∧c9 l y.2∧∀i,i<y.1.length→(nth y.1 i).length≤6) (fun y=>c.s.length-y.1.length) ([],k) rfl (by simp) ⟨by simp,hd,by simp⟩ ?_
 rintro⟨x,k⟩ ⟨h1,hd,hx6⟩;simp only at h1 hd hx6;simp +contextual (disch:=omega) [-getElem?_pos,-List.length_eq_zero_iff,-Int.natCast_eq_zero,wrap64,ZJ];refine bT (fun h5=>?_) (fun h5=>?_)
 ·obtain⟨q,k2,n2,eZ,hq⟩:=awp hd
  have hx:x.length≤5864062014804:=by omega
  simp +contextual (disch:=omega) [-getElem?_pos,-List.length_eq_zero_iff,-Int.natCast_eq_zero,wrap64,n2,hx];refine bP (x++[q],k2) (by simp) ⟨by simp;omega,eZ,fun i hi=>?_⟩ (by simp;omega)
  simp only[m9,qh]at hi;rw[iV];by_cases g:i<x.length
  ·rw[aM g];exact hx6 i g
  ·rw[ay g,aM (by omega)];exact hq
 ·exact hQ x k hd (by omega) hx6
theorem awr(a:List Vi)(ha:a.length≤1000000000)(G:List aS):aZ F 33 [ub a,ub a] G=some (.bool true,G) :=
 bM rfl rfl (by
  simp +contextual (disch:=omega) [-getElem?_pos,-List.length_eq_zero_iff,-Int.natCast_eq_zero,wrap64,ZS];refine go_loop (fun i:Nat=>amg (ub a) (ub a) a.length i G) (fun i=>i≤a.length) (fun i=>a.length-i) 0 rfl (by simp) (by simp) ?_
  rintro i hi;simp +contextual (disch:=omega) [-getElem?_pos,-List.length_eq_zero_iff,-Int.natCast_eq_zero,wrap64,ZR];refine bT (fun h5=>?_) (fun h5=>?_)
  ·have h5:i<a.length:=by omega
   simp +contextual (disch:=omega) [-getElem?_pos,-List.length_eq_zero_iff,-Int.natCast_eq_zero,wrap64,bf (l:=a),V.iE,eC,jW];exact bP (i+1) (by simp) (by omega) (by omega)
  ·simp)
theorem aws(a b:List (List Int))(ha:a.length≤1000000000)(h:∀i,i<a.length→(nth a i).length≤17592186044416)(G:List aS):aZ F 65 [lH a,lH b,.fn 66 []] G=some (.bool (decide (a=b)),G) :=
 bM rfl rfl (by
  generalize hW:decide (a=b)=W;by_cases h1:a.length=b.length
  case neg =>
   have jm:¬ (a.length:Int)=b.length:=by omega
   simp +contextual (disch:=omega) [-getElem?_pos,-List.length_eq_zero_iff,-Int.natCast_eq_zero,wrap64,RA,jm];rw[←hW,decide_eq_false fun h=>h1 (by rw[h])]
  have jm:(a.length:Int)=b.length:=by omega
  simp +contextual (disch:=omega) [-getElem?_pos,-List.length_eq_zero_iff,-Int.natCast_eq_zero,wrap64,RA,jm];refine go_loop (fun i:Nat=>amK (lH b) (.fn 66 []) (lH a) b.length i G) (fun i=>i≤a.length∧∀j,j<i→nth a j=nth b j) (fun i=>a.length-i) 0 rfl (by simp) (by simp) ?_
  rintro i ⟨hi,hj⟩;simp +contextual (disch:=omega) [-getElem?_pos,-List.length_eq_zero_iff,-Int.natCast_eq_zero,wrap64,aaj];refine bT (fun h5=>?_) (fun h5=>?_)
  ·have h5:i<b.length:=by omega
   have h6:i<a.length:=by omega
   have he:=av8 (nth a i) (nth b i) (h i h6);by_cases h7:nth a i=nth b i
   ·rw[jf h7]at he
    simp +contextual (disch:=omega) [-getElem?_pos,-List.length_eq_zero_iff,-Int.natCast_eq_zero,wrap64,bf (l:=a),bf (l:=b),he];exact bP (i+1) (by simp) ⟨by omega,fun j yr=>by
     by_cases g:j=i
     ·rw[g];exact h7
     ·exact hj j (by omega)⟩ (by omega)
   ·rw[decide_eq_false h7]at he
    simp +contextual (disch:=omega) [-getElem?_pos,-List.length_eq_zero_iff,-Int.natCast_eq_zero,wrap64,bf (l:=a),bf (l:=b),he];rw[←hW,decide_eq_false fun h=>h7 (by rw[h])]
  ·rw[←hW,jf (awc h1 fun j yr=>hj j (by omega))])
instance:DecidableEq Pn:=fun a b=>decidable_of_iff (a.f=b.f∧a.l=b.l) ⟨fun h=>by cases a;cases b;simp_all,fun h=>by rw[h];exact⟨rfl,rfl⟩⟩
theorem ahl(a b:Pn)(ha:a.l.length≤1000000000)(h:∀i,i<a.l.length→(nth a.l i).length≤17592186044416)(G:List aS):aZ F 23 [pn a,pn b] G=some (.bool (decide (a=b)),G) :=
 bM rfl rfl (by
  have he:=aws a.l b.l ha h;obtain⟨f,l⟩:=a;obtain⟨g,m⟩:=b;simp only at he;by_cases h1:f=g
  ·subst h1
   rw[show decide ((⟨f,l⟩:Pn)=⟨f,m⟩)=decide (l=m) by simp]
   simp +contextual (disch:=omega) [-getElem?_pos,-List.length_eq_zero_iff,-Int.natCast_eq_zero,wrap64,Ro,he]
  ·rw[show decide ((⟨f,l⟩:Pn)=⟨g,m⟩)=false by simp[h1]]
   simp +contextual (disch:=omega) [-getElem?_pos,-List.length_eq_zero_iff,-Int.natCast_eq_zero,wrap64,Ro,he,h1])
abbrev wC:Cs:=⟨⟨1,[]⟩,[]⟩
abbrev AS:Fl:=⟨0,[],[]⟩
abbrev xQ:Pn:=⟨0,[]⟩
theorem awt:jR wC.r=0:=by
 unfold jR;rw[ay (by decide)]
 rfl
theorem ahm:e8 wC=0:=by
 unfold e8;rw[ay (fun g=>g awt),ay (by decide),ay (by decide)]
 rfl
theorem Vv:lh wC.r:=⟨by decide,fun i hi=>by simp at hi⟩
theorem Vw:oe AS:=fun i=>y7 _
theorem ahn:eR wC AS:=⟨by decide,⟨rfl,by simp⟩,rfl,fun i hi=>by simp at hi⟩
theorem awu:wA wC xQ=0:=by
 unfold wA;rw[ay (fun g=>g ahm),aM (by decide),ay (by decide)]
 rfl
theorem aho:om wC AS xQ ([]:List Sp).length=0:=by
 unfold om;rw[ay (fun g=>g awu),aM ahn,aM (show xQ.f=AS.t from rfl),aM (show([]:List Sp).length=xQ.l.length from rfl)]
theorem awv:kO wC AS=0:=by unfold kO;rw[ay (fun g=>g ahm),aM ahn]
theorem ahp:jc wC AS []=0:=by
 unfold jc;rw[ay (fun g=>g awv),ay (by simp)]
 rfl
theorem ahq:B8 wC AS xQ []=0:=by
 unfold B8;rw[ay (fun g=>g aho)];exact ahp
theorem aww(G:List aS):aZ F 25 [.agg [i64 4,.slice none 1 [[.slice none 1 [[i64 1]]],[.slice none 1 [[i64 2]]]]],i64 5] G=some (.tuple [.slice none 1 [[i64 2]],.bool true],G) :=
 bM rfl rfl (by
  have h:=UD [2] (by simp)
  simp only[ints,oq,GW]at h;simp +contextual (disch:=omega) [-getElem?_pos,-List.length_eq_zero_iff,-Int.natCast_eq_zero,wrap64,ZQ,h])
theorem awx:∃G',aZ F 14 [cs wC,fl AS,.slice none 1 [],pn xQ,oj []] []=some (.tuple [.agg [i64 0,.slice none 1 []],.slice none 4 [],i64 0],G'):=by
 suffices h:gA (aZ F) 14 [cs wC,fl AS,.slice none 1 [],pn xQ,oj []] [] fun v _=>v=.tuple [.agg [i64 0,.slice none 1 []],.slice none 4 [],i64 0] by
  obtain⟨_,G,h,rfl⟩:=h;exact⟨G,h⟩
 refine gM rfl rfl ?_;have h1:∀g G,aZ F 42 [.agg [i64 1,.slice none 4 [],.slice none 10 [],i64 0,.slice none 1 [],.fn 40 g],.agg [i64 0,.slice none 4 [],.slice none 1 []],.slice none 3 []] G=some (i64 0,G):=fun g G=>by
  have:=N3 wC Vv Vw xQ 40 g [] G;rw[aho]at this;exact this
 obtain⟨G0,h2⟩:=agF Vv Vw [] (by simp)
 rw[mD,aM ahp]at h2;replace h2:aZ F 85 [.agg [i64 1,.slice none 4 [],.slice none 10 []],.agg [i64 0,.slice none 4 [],.slice none 1 []],.slice none 3 []] []=some (.tuple [.agg [i64 0,.slice none 4 [],.slice none 1 []],.slice (some 0) 3 [],i64 0],G0):=h2;have h3:∀G,aZ F 43 [.agg [i64 1,.slice none 4 [],.slice none 10 []],.slice none 1 []] G=some (i64 0,G):=fun G=>bM rfl rfl (by
  simp +contextual (disch:=omega) [-getElem?_pos,-List.length_eq_zero_iff,-Int.natCast_eq_zero,wrap64,L8];rw[Z6,vX];simp +contextual (disch:=omega) [-getElem?_pos,-List.length_eq_zero_iff,-Int.natCast_eq_zero,wrap64,Ru])
 have h4:∀G,aZ F 44 [.agg [i64 1,.slice none 4 [],.slice none 10 [],i64 0,.slice none 1 [],.fn 40 [.bm 0 0,.bm 1 0,.bm 3 0,.bm 2 0]],.agg [i64 0,.slice none 4 [],.slice none 1 []],.slice none 3 []] G=some (.tuple [.agg [i64 0,.slice none 4 [],.slice none 1 []],.slice (some 0) 3 [],i64 0],G):=fun G=>bM rfl rfl (by
  simp +contextual (disch:=omega) [-getElem?_pos,-List.length_eq_zero_iff,-Int.natCast_eq_zero,wrap64,Rx,h2];rw[Z7,vX];simp +contextual (disch:=omega) [-getElem?_pos,-List.length_eq_zero_iff,-Int.natCast_eq_zero,wrap64,Rw])
 simp +contextual (disch:=omega) [-getElem?_pos,-List.length_eq_zero_iff,-Int.natCast_eq_zero,wrap64,Fu,h1,h3,h4]
theorem awy:∃G',aZ F 6 [] []=some (.bool true,G'):=by
 suffices h:gA (aZ F) 6 [] [] fun v _=>v=.bool true by
  obtain⟨_,G,h,rfl⟩:=h;exact⟨G,h⟩
 refine gM rfl rfl ?_;obtain⟨X,x,_,h1⟩:=avF Vv Vw xQ [] [];rw[x ahq,av1 ahq]at h1;replace h1:aZ F 28 [.agg [i64 1,.slice none 4 [],.slice none 10 []],.agg [i64 0,.slice none 4 [],.slice none 1 []],.agg [i64 0,.slice none 1 []],.slice none 3 []] []=some (.tuple [.agg [i64 0,.slice none 4 [],.slice none 1 []],.slice (some 0) 3 [],i64 0],[]):=h1;obtain⟨G2,h2⟩:=awx;have h3:=ahl xQ xQ (by simp) (fun i hi=>by simp at hi)
 simp only[pn,Pn.row,lH,cs,Cs.row,od,tX,fl,Fl.row,xH,oj,GW]at h2 h3;simp +contextual (disch:=omega) [-getElem?_pos,-List.length_eq_zero_iff,-Int.natCast_eq_zero,wrap64,ZB,h1,h2,aww,h3]
end Go.Proofs.YtmppfkgfnnebeaaGreatDoor
namespace Go.Proofs.YtmppfkgfnnebeaaGreatDoor
set_option linter.all false
open Go.Vm
theorem awz{c:Cs}{f:Fl}(hr:lh c.r)(D6:oe f){pl:List (List Int)}{q:List Sp}{L:List (List Cd)}(hL:L.length=c.s.length)(BX:L.length≤1000)(Oc:∀i,i<L.length→(nth L i).length≤6)(he:xM c f L ⟨f.t,pl⟩ q=0) :
  ∃(M:List (List Int)) (W:List Vi) (G1 G2 G3:List aS),aZ F 14 [cs c,fl f,r0 L,.agg [i64 f.t,lH pl],oj q] []=some (.tuple [.agg [i64 f.t,lH M],ub W,i64 0],G1) ∧
   aZ F 14 [cs c,fl f,r0 L,.agg [i64 f.t,lH M],oj q] []=some (.tuple [.agg [i64 f.t,lH M],ub W,i64 0],G2) ∧
   aZ F 34 [cs c,fl f,r0 L,.agg [i64 f.t,lH M],oj q] []=some (.tuple [ub W,i64 0],G3) ∧
   (∀G,aZ F 23 [.agg [i64 f.t,lH M],.agg [i64 f.t,lH M]] G=some (.bool true,G))∧W.length≤1000000∧∀x,x∈W→Vs L W x:=by
 have mT:∀i,i<L.length→(nth L i).length≤19:=fun i hi=>by have:=Oc i hi;omega
 have hk:=awj he;have e1:=awk hk;have e2:=ahe hk;have e3:=ahf hk _ (bV _);have e5:=ahh hk _ (bV _);simp only at e1 e2 e3 e5;have Nw:=Ve hk.b.c0;have aDA:=hk.b.di;have hoc:=(U9 hk.w mT).2;have Pp:=Vb (f:=f) (p:=⟨f.t,pl⟩) (l:=q) hL hoc q.length;have Vx:∀x,x∈nE c f L ⟨f.t,pl⟩ q q.length→Vs L (nE c f L ⟨f.t,pl⟩ q q.length) x:=fun x hx=>awl hk hL hx;have hMl:(je c f L ⟨f.t,pl⟩ q q.length).length=q.length:=Va;have hMn:∀i,i<q.length→(nth (je c f L ⟨f.t,pl⟩ q q.length) i).length≤6:=fun i hi=>by
  rw[D4 hi,U3];exact Nw
 have hmul:19*c.s.length*q.length≤19*6*96:=Ek (by omega) (by omega)
 obtain⟨G1,hR⟩:=(Vg hr D6 ⟨f.t,pl⟩ q BX mT).1 he;obtain⟨G2,uA⟩:=(Vg hr D6 ⟨f.t,je c f L ⟨f.t,pl⟩ q q.length⟩ q BX mT).1 e1;obtain⟨G3,GC⟩:=avY hr D6 ⟨f.t,je c f L ⟨f.t,pl⟩ q q.length⟩ q BX mT hk.bg hk.w hk.r;simp only at hR uA GC;rw[e2,e3]at uA;rw[e5]at GC;generalize nE c f L ⟨f.t,pl⟩ q q.length=W at *;generalize je c f L ⟨f.t,pl⟩ q q.length=M at *;refine⟨M,W,G1,G2,G3,hR,uA,GC,fun G=>?_,by omega,Vx⟩
 have:=ahl ⟨f.t,M⟩ ⟨f.t,M⟩ (by simp only;omega) (fun i hi=>by
  simp only at hi ⊢;have:=hMn i (by omega)
  omega) G
 rw[jf rfl]at this;exact this
end Go.Proofs.YtmppfkgfnnebeaaGreatDoor
namespace Go.Proofs.YtmppfkgfnnebeaaGreatDoor
set_option linter.all false
open Go.Vm
attribute [local simp] lZ l7 lX lY
set_option maxRecDepth 100000 in
set_option maxHeartbeats 2000000 in
theorem awC{l:List Int}(hl:l.length≤9223372036854775807):∃G',aZ F 5 [ints l] []=some (.bool true,G'):=by
 suffices h:gA (aZ F) 5 [ints l] [] fun v _=>v=.bool true by
  obtain⟨_,G,h,rfl⟩:=h;exact⟨G,h⟩
 refine gM rfl rfl ?_;obtain⟨Gs,Vy⟩:=awy;by_cases h1:l.length≤500
 case neg=>simp +contextual (disch:=omega) [-getElem?_pos,-List.length_eq_zero_iff,-Int.natCast_eq_zero,wrap64,L5,Vy,SN,h1]
 obtain⟨c,f,k1,n1,gR,J5,jk,_⟩:=avv (l:=l) (k:=0) ⟨by omega,hl⟩
 have hz:=J5.mc;have cv:=qe hz;have D0:=J5.small;have hn6:=J5.n;have U7:=J5.s;have jQ:=(oh cv.k).n;have D6:=UU cv.k jk;obtain⟨m,k2,n2,eZ,hm⟩:=fk gR 7 (by omega)
 obtain⟨pl,k3,n3,kI,my⟩:=av0 eZ (c:=c) (by omega) (by omega) f.t (n:=m.toNat) (by omega)
 obtain⟨q,k4,n4,qH,hq,_⟩:=avz kI (c:=c) (by omega) (by omega) (n:=m.toNat) (by omega)
 rw[VI hm.1]at n3 n4;obtain⟨L,k5,n5,Ap,hL,Oc⟩:=awq qH (c:=c) (by omega)
 have mT:∀i,i<L.length→(nth L i).length≤19:=fun i hi=>by have:=Oc i hi;omega
 have BX:L.length≤1000:=by omega
 have y0:=(Vg D0 D6 ⟨f.t,pl⟩ q BX mT).2;by_cases he:xM c f L ⟨f.t,pl⟩ q=0
 case neg =>
  obtain⟨t,u,G1,e0⟩:=y0 he;generalize xM c f L ⟨f.t,pl⟩ q=E at *;have UP:(E != 0)=true:=by simp[he]
  simp +contextual (disch:=omega) [-getElem?_pos,-List.length_eq_zero_iff,-Int.natCast_eq_zero,wrap64,L5,Vy,SN,h1,adB,n1,n2,n3,n4,n5,e0,UP]
 obtain⟨M,W,G1,G2,G3,hR,uA,GC,hPs,hVl,Vx⟩:=awz D0 D6 hL BX Oc he;have hSv:=awr W (by omega)
 clear y0 he jk J5 hz cv D0 D6
 simp (config:={ maxSteps:=2000000 }) +contextual (disch:=omega) [-getElem?_pos,-List.length_eq_zero_iff,-Int.natCast_eq_zero,wrap64,L5,Vy,SN,h1,adB,n1,n2,n3,n4,n5,hR,uA,GC,hPs,hSv];refine go_loop (fun i:Nat=>alS (r0 L) (ub W) (ub W) W.length i [dk l k5]) (fun i=>i≤W.length) (fun i=>W.length-i) 0 rfl (by simp) (by omega) ?_
 rintro i hi
 clear hR uA GC hPs hSv n1 n2 n3 n4 n5
 simp +contextual (disch:=omega) [-getElem?_pos,-List.length_eq_zero_iff,-Int.natCast_eq_zero,wrap64,ZA];refine bT (fun h=>?_) (fun h=>?_)
 case refine_2=>simp
 have h:i<W.length:=by omega
 have hm9:nth W i∈W:=by simp[nth,List.getD,h]
 have hg:=bf h;have ez:=(Vx _ hm9).w;generalize nth W i=x at *;obtain⟨xt,xs,xc,xb⟩:=x;simp only at ez;obtain⟨s,a,rfl,hsL,rfl,Vz,hb⟩:=ez;have VA:=bf hsL;rcases hb with rfl | ⟨j,rfl,hjL,awF,jh⟩
 ·simp +contextual (disch:=omega) [-getElem?_pos,-List.length_eq_zero_iff,-Int.natCast_eq_zero,wrap64,hg,VA]
  exact bP (i+1) (by simp) (by omega) (by omega)
 have hja:=bf hjL;have haa:=bf Vz;have np:((j:Int) == -1)=false:=by simp
 have uo:¬ (j:Int)<0:=by omega
 have hn2:¬ (nth L s).length≤j:=by omega
 rcases awF with ho | ⟨ho,bE⟩;have o1:¬ (nth (nth L s) a).rk<(nth (nth L s) j).rk:=by have:(nth (nth L s) j).rk<(nth (nth L s) a).rk:=ho;omega
 have o2:¬ (nth (nth L s) j).rk=(nth (nth L s) a).rk:=by have:(nth (nth L s) j).rk<(nth (nth L s) a).rk:=ho;omega
 simp +contextual (disch:=omega) [-getElem?_pos,-List.length_eq_zero_iff,-Int.natCast_eq_zero,wrap64,hg,VA,hja,haa,np,uo,hn2,Vz,o1,o2]
 rotate_left
 have o2:(nth (nth L s) j).rk=(nth (nth L s) a).rk:=ho;have o3:¬ a≤j:=by omega
 have o4:¬ (a:Int)≤j:=by omega
 simp +contextual (disch:=omega) [-getElem?_pos,-List.length_eq_zero_iff,-Int.natCast_eq_zero,wrap64,hg,VA,hja,haa,np,uo,hn2,Vz,o2,o3,o4]
 all_goals
  refine go_loop (fun k:Nat=>alM (r0 L) (ub W) (ub W) W.length i (ub W) W.length k [i64 xt,i64 s,i64 a,i64 j] [dk l k5]) (fun k=>k≤W.length) (fun k=>W.length-k) 0 rfl (by simp) (by omega) ?_
  rintro k hk;simp +contextual (disch:=omega) [-getElem?_pos,-List.length_eq_zero_iff,-Int.natCast_eq_zero,wrap64,Zz];refine bT (fun Od=>?_) (fun Od=>?_)
  ·have Od:k<W.length:=by omega
   have VB:=bf Od;have hnk:=jh _ (show nth W k∈W by simp[nth,List.getD,Od])
   generalize nth W k=y at *;obtain⟨yt,ys,yc,yb⟩:=y;simp only at hnk;by_cases y1:yt=xt
   ·by_cases y2:ys=s
    ·have y3:¬ yc=j:=fun y3=>hnk ⟨y1,y2,y3⟩
     simp +contextual (disch:=omega) [-getElem?_pos,-List.length_eq_zero_iff,-Int.natCast_eq_zero,wrap64,VB,y1,y2,y3];exact bP (k+1) (by simp) (by omega) (by omega)
    ·simp +contextual (disch:=omega) [-getElem?_pos,-List.length_eq_zero_iff,-Int.natCast_eq_zero,wrap64,VB,y1,y2]
     exact bP (k+1) (by simp) (by omega) (by omega)
   ·simp +contextual (disch:=omega) [-getElem?_pos,-List.length_eq_zero_iff,-Int.natCast_eq_zero,wrap64,VB,y1]
    exact bP (k+1) (by simp) (by omega) (by omega)
  ·exact bP (i+1) (by simp) (by omega) (by omega)
end Go.Proofs.YtmppfkgfnnebeaaGreatDoor

/- Parts of the proof. -/
import Derived.Test.YtmppfkgfnnebeaaGreatDoorDf
import Derived.Test.YtmppfkgfnnebeaaGreatDoorDe
namespace Go.Proofs.YtmppfkgfnnebeaaGreatDoor
set_option linter.all false
open Go.Vm
attribute [local simp] lZ l7 lX lY
theorem af4{l:List Int}{a:Int}:∀{i:Nat},i≤l.length→sm (l++[a]) i=sm l i
 |0,_=>rfl
 |i+1,h=>by
  simp only[sm];rw[af4 (by omega),rI (by omega)]
theorem auD{l:List Int}{a:Int}:sm (l++[a]) (l.length+1)=sm l l.length+a:=by
 simp only[sm];rw[af4 (bV _),iV,ay (by omega),aM rfl]
abbrev xI(l:List Int):V:=.slice (some 0) 1 (l.map fun n=>[i64 n])
abbrev UH(r:Rc):V:=.agg [xI r.w,i64 r.den]
theorem auE{l:List Int}{k:Nat}(hd:c9 l k):∃r k',aZ F 116 [.bm 0 0] [dk l k]=some (UH r,[dk l k'])∧c9 l k'∧e7 r=0∧r.w.length≤5:=by
 suffices h:∀Q:V→List aS→Prop,(∀r k',c9 l k'→e7 r=0→r.w.length≤5→Q (UH r) [dk l k'])→gA (aZ F) 116 [.bm 0 0] [dk l k] Q by
  obtain⟨_,_,h,r,k',rfl,rfl,h1⟩:=h (fun v G=>∃r k',v=UH r∧G=[dk l k']∧c9 l k'∧e7 r=0∧r.w.length≤5) fun r k' a b c=>⟨r,k',rfl,rfl,a,b,c⟩;exact⟨r,k',h,h1⟩
 intro Q hQ;refine gM rfl rfl ?_;obtain⟨m,k1,n1,gR,hm⟩:=fk hd 5 (by omega)
 simp (disch:=omega) [wrap64,aa1,n1];refine go_loop (fun s:List Int×Int×Int×Nat=>an1 (.bm 0 0) s.2.2.1 [.cb,i64 0] [.slice (some 1022) 1 (s.1.map fun n=>[i64 n]),i64 s.2.1] s.1.length [dk l s.2.2.2])
  (fun s=>s.2.1=sm s.1 s.1.length∧(∀i,i<s.1.length→0≤nth s.1 i∧nth s.1 i≤4)∧(s.1.length:Int)+s.2.2.1+1≤5 ∧ -1≤s.2.2.1∧(s.2.2.1 = -1→0<s.1.length∧1≤nth s.1 (s.1.length-1))∧c9 l s.2.2.2) (fun s=>(s.2.2.1+1).toNat)
  ([],0,m,k1) rfl (by simp) ⟨rfl,by simp,by simp;omega,by simp only;omega,by simp only;omega,gR⟩ ?_
 rintro⟨w,den,x,k⟩ ⟨h1,h2,h3,h4,h5,hd⟩;simp only at h1 h2 h3 h4 h5 hd;have D0:=DX (l:=w) (b:=4) (i:=w.length) h2;obtain⟨a,k2,n2,eZ,ha⟩:=fk hd 4 (by omega)
 simp (disch:=omega) [wrap64,aa0];refine bT (fun h6=>?_) (fun h6=>?_)
 ·have key:∀b:Int,(0≤b∧b≤4)→(x=0→1≤b)→((den+b=sm (w++[b]) (w++[b]).length)∧(∀i,i<(w++[b]).length→0≤nth (w++[b]) i∧nth (w++[b]) i≤4)∧((w++[b]).length:Int)+(x-1)+1≤5 ∧ -1≤x-1∧(x-1 = -1→0<(w++[b]).length∧1≤nth (w++[b]) ((w++[b]).length-1))∧c9 l k2):=fun b hb EU=>by
   refine⟨by rw[m9,qh,auD,h1],fun i hi=>?_,by simp;omega,by omega,fun g=>⟨by simp,?_⟩,eZ⟩
   ·rw[iV]
    simp at hi;split
    ·exact h2 i (by assumption)
    ·rw[aM (by omega)];exact hb
   ·rw[m9,qh,sa,iV,ay (by omega),aM rfl]
    exact EU (by omega)
  by_cases h7:x=0
  ·subst h7
   simp (disch:=omega) [wrap64,n2];exact bP (w++[a+1],den+(a+1),-1,k2) (by simp) (key (a+1) (by omega) (fun _=>by omega)) (by simp)
  ·simp (disch:=omega) [wrap64,n2,h7]
   exact bP (w++[a],den+a,x-1,k2) (by simp) (key a (by omega) (fun g=>absurd g h7)) (by simp only;omega)
 ·have hx:x = -1:=by omega
  obtain⟨h8,h9⟩:=h5 hx;refine hQ ⟨w,den⟩ k hd ?_ (by simp only;omega)
  unfold e7;simp only;rw[ay (by omega),ay (by omega),aM (show fa w 10000 from fun i hi=>by have:=h2 i hi;omega),aM h1.symm]
structure Rm(m:Int)(l:List Lk)(n:Int):Prop where
 link:∀i,i<l.length→0≤(nth l i).f∧(nth l i).f<(nth l i).t∧(nth l i).t≤m-1∧(nth l i).f<n∧e7 (nth l i).r=0∧(nth l i).r.w.length≤5
 up:∀i,0<i→i<l.length→(nth l (i-1)).f<(nth l i).f
 len:(l.length:Int)≤n
theorem Rm.snoc{m:Int}{l:List Lk}{n:Int}(h:Rm m l n)(hn:0≤n){x:Lk}(h1:x.f=n)(h2:n<x.t)(h3:x.t≤m-1)(h4:e7 x.r=0)(h5:x.r.w.length≤5):Rm m (l++[x]) (n+1):=by
 refine⟨fun i hi=>?_,fun i h0 hi=>?_,by have:=h.len;simp;omega⟩
 ·simp at hi
  rw[iV];split
  ·have:=h.link i (by assumption);omega
  ·rw[aM (by omega)];omega
 ·simp at hi
  rw[iV,iV,aM (by omega)]
  split
  ·exact h.up i h0 (by assumption)
  ·rw[aM (by omega),h1]
   exact(h.link (i-1) (by omega)).2.2.2.1
theorem Rm.skip{m:Int}{l:List Lk}{n:Int}(h:Rm m l n):Rm m l (n+1) :=
 ⟨fun i hi=>by have:=h.link i hi;omega,h.up,by have:=h.len;omega⟩
theorem Rm.mc{m:Int}{l:List Lk}{n:Int}(h:Rm m l n)(hm:1≤m∧m≤40):jR ⟨m,l⟩=0:=by
 unfold jR;rw[ay (by simp only;omega)]
 refine sL fun i _ hi=>?_;have hi:i<l.length:=by simp only at hi;omega
 have a:=h.link i hi;show(if (0≤(nth l i).f∧(nth l i).f≤m-1)∧(0≤(nth l i).t∧(nth l i).t≤m-1) then (if (nth l i).t≤(nth l i).f then 12 else if 0<i∧(nth l i).f≤(nth l (i-1)).f then 4 else e7 (nth l i).r) else 11)=0
 rw[aM (by omega),ay (by omega),ay (fun g=>by have:=h.up i g.1 hi;omega)]
 exact a.2.2.2.2.1
abbrev UI(l:List Lk):V:=.slice (some 0) 4 (l.map Lk.row)
theorem auF{l:List Int}{k:Nat}(hd:c9 l k):∃r k',aZ F 77 [.bm 0 0] [dk l k]=some (.agg [i64 r.n,UI r.l],[dk l k'])∧c9 l k'∧jR r=0∧r.n≤6∧∀i,i<r.l.length→(nth r.l i).r.w.length≤5:=by
 suffices h:∀Q:V→List aS→Prop,(∀r k',c9 l k'→jR r=0→r.n≤6→(∀i,i<r.l.length→(nth r.l i).r.w.length≤5)→Q (.agg [i64 r.n,UI r.l]) [dk l k'])→gA (aZ F) 77 [.bm 0 0] [dk l k] Q by
  obtain⟨_,_,h,r,k',rfl,rfl,h1⟩:=h (fun v G=>∃r k',v=.agg [i64 r.n,UI r.l]∧G=[dk l k']∧c9 l k'∧jR r=0∧r.n≤6∧∀i,i<r.l.length→(nth r.l i).r.w.length≤5) fun r k' a b c d=>⟨r,k',rfl,rfl,a,b,c,d⟩;exact⟨r,k',h,h1⟩
 intro Q hQ;refine gM rfl rfl ?_;obtain⟨a,k1,n1,gR,ha⟩:=fk hd 6 (by omega)
 obtain⟨m,hm⟩:∃m:Int,1+a=m:=⟨_,rfl⟩;simp (disch:=omega) [wrap64,aar,n1,hm];refine go_loop (fun s:List Lk×Int×Nat=>amU (.bm 0 0) s.2.1 [i64 0,.cb] [i64 m,.slice (some 1036) 4 (s.1.map Lk.row)] s.1.length [dk l s.2.2])
  (fun s=>Rm m s.1 s.2.1∧(0≤s.2.1∧s.2.1<m)∧c9 l s.2.2) (fun s=>(m-s.2.1).toNat) ([],0,k1) rfl (by simp) ⟨⟨by simp,by simp,by simp⟩,by simp only;omega,gR⟩ ?_
 rintro⟨ls,n,k⟩ ⟨h1,h2,hd⟩;simp only at h1 h2 hd;have lq:=h1.len;obtain⟨b,k2,n2,eZ,hb⟩:=fk hd 6 (by omega)
 simp (disch:=omega) [wrap64,aaq];refine bT (fun h6=>?_) (fun h6=>?_)
 ·by_cases h7:0<b
  ·obtain⟨e,k3,n3,kI,he⟩:=fk eZ (m-n-1) (by omega)
   obtain⟨r,k4,n4,qH,qW,oZ⟩:=auE kI;simp (disch:=omega) [wrap64,n2,h7,n3,n4];exact bP (ls++[⟨n,n+1+e,r⟩],n+1,k4) (by simp) ⟨h1.snoc h2.1 rfl (by simp only;omega) (by simp only;omega) qW oZ,by simp only;omega,qH⟩ (by simp only;omega)
  ·simp (disch:=omega) [wrap64,n2,h7]
   exact bP (ls,n+1,k2) (by simp) ⟨h1.skip,by simp only;omega,eZ⟩ (by simp only;omega)
 ·refine hQ ⟨m,ls⟩ k hd (h1.mc (by omega)) (by simp only;omega) fun i hi=>(h1.link i hi).2.2.2.2.2
structure Cm(c:Cs):Prop where
 mc:e8 c=0
 n:c.r.n≤6
 s:c.s.length≤3
 w:∀i,i<c.r.l.length→(nth c.r.l i).r.w.length≤5
theorem Cm.small{c:Cs}(h:Cm c):lh c.r:=by
 have:=(oh (qe h.mc).k).len;exact⟨by omega,fun i hi=>by have:=h.w i hi;omega⟩
structure Sm(m:Int)(s:List Si)(l:List Ds)(n:Int):Prop where
 len:l.length=s.length
 three:s.length≤3
 site:∀i,i<s.length→(0≤(nth s i).n∧(nth s i).n<m∧(nth s i).n<n)∧fF (nth s i).d=0∧ik (nth s i).d (nth l i)
 up:∀i,0<i→i<s.length→(nth s (i-1)).n<(nth s i).n
abbrev NF(l:List Si):V:=.slice (some 0) 10 (l.map Si.row)
abbrev NG(l:List Ds):V:=.slice (some 0) 4 (l.map Ds.row)
theorem Sm.snoc{m:Int}{s:List Si}{l:List Ds}{n:Int}(h:Sm m s l n)(h3:s.length<3)(hn:0≤n∧n<m){d:Dm}{x:Ds}(h1:fF d=0)(h2:ik d x):Sm m (s++[⟨n,d⟩]) (l++[x]) (n+1):=by
 refine⟨by simp[h.len],by simp;omega,fun i hi=>?_,fun i h0 hi=>?_⟩
 ·simp at hi
  rw[iV,iV,h.len];split
  ·have:=h.site i (by assumption)
   exact⟨by omega,this.2⟩
  ·rw[aM (by omega),aM (by omega)];exact⟨by simp only;omega,h1,h2⟩
 ·simp at hi
  rw[iV,iV,aM (by omega)]
  split
  ·exact h.up i h0 (by assumption)
  ·rw[aM (by omega)]
   exact(h.site (i-1) (by omega)).1.2.2
theorem Sm.skip{m:Int}{s:List Si}{l:List Ds}{n:Int}(h:Sm m s l n):Sm m s l (n+1) :=
 ⟨h.len,h.three,fun i hi=>⟨by have:=h.site i hi;omega,(h.site i hi).2⟩,h.up⟩
theorem Sm.mc{r:Rr}{s:List Si}{l:List Ds}{n:Int}(h:Sm r.n s l n)(hk:jR r=0)(h6:r.n≤6):e8 ⟨r,s⟩=0:=by
 unfold e8;simp only;have h3:=h.three;rw[ay (by omega),ay (by omega),ay (by omega)]
 refine sL fun i _ hi=>?_;have hi:i<s.length:=by omega
 have a:=h.site i hi;show(if 0≤(nth s i).n∧(nth s i).n<r.n then (if 0<i∧(nth s i).n≤(nth s (i-1)).n then 4 else fF (nth s i).d) else 41)=0
 rw[aM (by omega),ay (fun g=>by have:=h.up i g.1 hi;omega)]
 exact a.2.1
theorem auG{l:List Int}{k:Nat}(hd:c9 l k):∃c s k',aZ F 36 [.bm 0 0] [dk l k]=some (.tuple [.agg [i64 c.r.n,od c.r.l,NF c.s],NG s],[dk l k'])∧c9 l k'∧Cm c∧oN c s:=by
 suffices h:∀Q:V→List aS→Prop,(∀c s k',c9 l k'→Cm c→oN c s→Q (.tuple [.agg [i64 c.r.n,od c.r.l,NF c.s],NG s]) [dk l k'])→gA (aZ F) 36 [.bm 0 0] [dk l k] Q by
  obtain⟨_,_,h,c,s,k',rfl,rfl,h1⟩:=h (fun v G=>∃c s k',v=.tuple [.agg [i64 c.r.n,od c.r.l,NF c.s],NG s]∧G=[dk l k']∧c9 l k'∧Cm c∧oN c s) fun c s k' a b d=>⟨c,s,k',rfl,rfl,a,b,d⟩;exact⟨c,s,k',h,h1⟩
 intro Q hQ;refine gM rfl rfl ?_;obtain⟨r,k1,n1,gR,hk,hn,hw⟩:=auF hd;have jQ:=(oh hk).n;simp (disch:=omega) [wrap64,ZU,n1];refine go_loop (fun s:List Si×List Ds×Int×Nat=>ami (.bm 0 0) (.slice (some 1043) 4 (s.2.1.map Ds.row)) s.2.2.1 [i64 0,.cb,.cb] [i64 r.n,od r.l,.slice (some 1039) 10 (s.1.map Si.row)] s.1.length s.2.1.length [dk l s.2.2.2])
  (fun s=>Sm r.n s.1 s.2.1 s.2.2.1∧(0≤s.2.2.1∧s.2.2.1≤r.n)∧c9 l s.2.2.2) (fun s=>(r.n-s.2.2.1).toNat) ([],[],0,k1) rfl (by simp) ⟨⟨rfl,by simp,by simp,by simp⟩,by simp only;omega,gR⟩ ?_
 rintro⟨s,d,n,k⟩ ⟨h1,h2,hd⟩;simp only at h1 h2 hd;have h3:=h1.three;have hl:=h1.len;have fin:Q (.tuple [.agg [i64 r.n,od r.l,NF s],NG d]) [dk l k]:=hQ ⟨r,s⟩ d k hd ⟨h1.mc hk hn,hn,h3,hw⟩ ⟨hl,fun i hi=>(h1.site i hi).2⟩;by_cases h4:n<r.n
 ·by_cases h5:s.length<3
  ·have uN:(s.length:Int)<3:=by omega
   obtain⟨b,k2,n2,eZ,hb⟩:=fk hd 2 (by omega)
   by_cases h6:b=0
   ·obtain⟨dd,x,k3,n3,kI,xG⟩:=atN eZ
    simp (disch:=omega) [wrap64,IA,h4,uN,n2,h6,n3];exact bP (s++[⟨n,dd⟩],d++[x],n+1,k3) (by simp[hl]) ⟨h1.snoc h5 (by omega) xG.mc xG.fit,by simp only;omega,kI⟩ (by simp only;omega)
   ·simp (disch:=omega) [wrap64,IA,h4,uN,n2,h6]
    exact bP (s,d,n+1,k2) (by simp) ⟨h1.skip,by simp only;omega,eZ⟩ (by simp only;omega)
  ·have uN:¬ (s.length:Int)<3:=by omega
   simp (disch:=omega) [wrap64,IA,h4,uN];exact fin
 ·simp (disch:=omega) [wrap64,IA,h4]
  exact fin
theorem UJ{l:List Int}{k:Nat}(hd:c9 l k){c:Cs}(hn:1≤c.r.n∧c.r.n≤40)(hs:c.s.length≤10) :
  ∃p k',aZ F 38 [.bm 0 0,cs c] [dk l k]=some (.agg [xI p.a,xI p.b,xI p.c],[dk l k'])∧c9 l k'∧og c p∧fa p.a 30∧fa p.b 30∧fa p.c 30:=by
 suffices h:∀Q:V→List aS→Prop,(∀p k',c9 l k'→og c p→fa p.a 30→fa p.b 30→fa p.c 30→Q (.agg [xI p.a,xI p.b,xI p.c]) [dk l k'])→gA (aZ F) 38 [.bm 0 0,cs c] [dk l k] Q by
  obtain⟨_,_,h,p,k',rfl,rfl,h1⟩:=h (fun v G=>∃p k',v=.agg [xI p.a,xI p.b,xI p.c]∧G=[dk l k']∧c9 l k'∧og c p∧fa p.a 30∧fa p.b 30∧fa p.c 30) fun p k' a b d e g=>⟨p,k',rfl,rfl,a,b,d,e,g⟩;exact⟨p,k',h,h1⟩
 intro Q hQ;refine gM rfl rfl ?_;obtain⟨⟨n,r⟩,s⟩:=c;simp only at hn hs;have snoc:∀{a:List Int} {x:Int},fa a 30→(0≤x∧x≤30)→fa (a++[x]) 30:=fun h hx i hi=>by
  simp at hi;rw[iV];split
  ·exact h i (by assumption)
  ·rw[aM (by omega)];exact hx
 simp (disch:=omega) [wrap64,ZZ];refine go_loop (fun y:List Int×Nat=>⟨[(0,.bm 0 0),(3,.bJ 3 0),(4,.bJ 4 0),(5,.bJ 5 0),(8,i64 n),(9,i64 y.1.length)],[(3,[i64 n,od r,tX s]),(4,[.cb,.cb,.cb]),(5,[.slice (some 1016) 1 (y.1.map fun n=>[i64 n]),.cb,.cb])],[(1016,y.1.length)],[dk l y.2]⟩)
  (fun y=>(y.1.length:Int)≤n∧fa y.1 30∧c9 l y.2) (fun y=>(n-y.1.length).toNat) ([],k) rfl (by simp) ⟨by simp;omega,fun i hi=>by simp at hi,hd⟩ ?_
 rintro⟨a,k⟩ ⟨h1,h2,hd⟩;simp only at h1 h2 hd;obtain⟨x,k1,n1,gR,hx⟩:=fk hd 14 (by omega)
 simp (disch:=omega) [wrap64,ZX];refine bT (fun h3=>?_) (fun h3=>?_)
 ·simp (disch:=omega) [wrap64,n1]
  exact bP (a++[x],k1) (by simp) ⟨by simp;omega,snoc h2 (by omega),gR⟩ (by simp;omega)
 ·refine go_loop (fun y:List Int×List Int×Nat=>⟨[(0,.bm 0 0),(4,.bJ 4 0),(5,.bJ 5 0),(21,i64 s.length),(22,i64 y.1.length)],[(4,[.cb,.cb,.cb]),(5,[.slice (some 1016) 1 (a.map fun n=>[i64 n]),.slice (some 1029) 1 (y.1.map fun n=>[i64 n]),.slice (some 1035) 1 (y.2.1.map fun n=>[i64 n])])],[(1016,a.length),(1029,y.1.length),(1035,y.2.1.length)],[dk l y.2.2]⟩)
   (fun y=>y.1.length≤s.length∧y.2.1.length=y.1.length∧fa y.1 30∧fa y.2.1 30∧c9 l y.2.2) (fun y=>s.length-y.1.length) ([],[],k) rfl (by simp) ⟨by simp,rfl,fun i hi=>by simp at hi,fun i hi=>by simp at hi,hd⟩ ?_
  rintro⟨b,d,k⟩ ⟨g1,g2,g3,g4,hd⟩;simp only at g1 g2 g3 g4 hd;obtain⟨x,k1,n1,gR,hx⟩:=fk hd 3 (by omega)
  obtain⟨y,k2,n2,eZ,hy⟩:=fk gR 30 (by omega)
  simp (disch:=omega) [wrap64,ZY];refine bT (fun h4=>?_) (fun h4=>?_)
  ·simp (disch:=omega) [wrap64,n1,n2,g2]
   exact bP (b++[x],d++[y],k2) (by simp[g2]) ⟨by simp;omega,by simp[g2],snoc g3 (by omega),snoc g4 (by omega),eZ⟩ (by simp;omega)
  ·refine hQ ⟨a,b,d⟩ k hd ⟨by simp only;omega,by simp only;omega,by simp only;omega⟩ h2 g3 g4
structure Co where
 arr:List Int
 d:List Ds
 w:List (List Int)
 re:List Dr
 lf:List Int
 cm:List Int
def qf(r:Dr):Int:=r.tur+r.spi+r.ovr
noncomputable def mZ(c:Cs)(p:Sp)(v:Co)(k:Nat):Int:=match lJ c.s k with
 |none=>0
 |some i=>oL (nth c.s i).d (nth v.d i) (nth v.arr k) (nth p.b i) (nth p.c i)
noncomputable def vR(c:Cs)(p:Sp)(v:Co)(k i:Nat):Dr:=mi (nth c.s i).d (nth v.d i) (nth v.arr k) (nth p.b i) (nth p.c i)
noncomputable def fw(c:Cs)(p:Sp)(v:Co)(k:Nat):Int:=match lJ c.s k with
 |none=>nth v.arr k
 |some i=>qf (vR c p v k i)
noncomputable def vD(c:Cs)(p:Sp)(v:Co)(k:Nat):Co:=match lJ c.s k with
 |none=>{ v with lf:=v.lf++[fw c p v k] }
 |some i=>{ v with d:=v.d.set i (mB (nth c.s i).d (nth v.d i) (nth v.arr k) (nth p.b i) (nth p.c i)),re:=v.re++[vR c p v k i],lf:=v.lf++[fw c p v k] }
noncomputable def pH(c:Cs)(v:Co)(x:Int)(k:Nat):Int:=match mC c.r.l k with
 |none=>0
 |some j=>gI (nth c.r.l j).r (nth v.w j) x
noncomputable def vL(c:Cs)(v:Co)(x:Int)(k:Nat):Co:=match mC c.r.l k with
 |none=>v
 |some j=>{ v with w:=v.w.set j (kN (nth c.r.l j).r (nth v.w j) x),cm:=v.cm++[mj (nth c.r.l j).r (nth v.w j) x],arr:=v.arr.set (nth c.r.l j).t.toNat (nth v.arr (nth c.r.l j).t.toNat+mj (nth c.r.l j).r (nth v.w j) x) }
noncomputable def vE(c:Cs)(p:Sp)(v:Co)(k:Nat):Int:=if mZ c p v k≠0 then mZ c p v k else pH c v (fw c p v k) k
noncomputable def vS(c:Cs)(p:Sp)(v:Co)(k:Nat):Co:=vL c (vD c p v k) (fw c p v k) k
structure Vc(c:Cs)(p:Sp)(v:Co)(k:Nat):Prop where
 c0:e8 c=0
 p:og c p
 D2:(v.arr.length:Int)=c.r.n
 arr:∀j,j<v.arr.length→0≤nth v.arr j∧nth v.arr j≤1073741824+1125899906842624*k
 d:oN c v.d
 w:Gd c v.w
 rl:v.re.length≤k
 ll:v.lf.length=k
 cl:v.cm.length≤k
abbrev crs(c:Cs)(p:Sp)(t:Int)(v:Co):List V:=[i64 t,.c5 0 4 v.d.length,.c5 1 1 v.w.length,i64 c.r.n,od c.r.l,tX c.s,ints p.a,ints p.b,ints p.c,.c5 2 1 v.arr.length,
 .eF 7 (v.re.map Dr.row),.eF 1 (v.lf.map fun n=>[i64 n]),.eF 1 (v.cm.map fun n=>[i64 n])]
abbrev Gc(c:Cs)(p:Sp)(t:Int)(v:Co)(J:List aS):List aS:=.cells (jS v.d)::.cells (lI v.w)::.cells (dD v.arr)::.cells (crs c p t v)::J
theorem NI{l:List Ds}{i:Nat}(h:i<l.length):((jS l).drop (i*4)).take 4=(nth l i).row:=UA (row:=Ds.row) (fun _=>rfl) h
theorem af6{l:List Ds}{i:Nat}(h:i<l.length)(x:Ds):iF (jS l) (i*4) x.row=jS (l.set i x):=Nz (row:=Ds.row) (fun _=>rfl) h
theorem NJ{l:List (List Int)}{i:Nat}(h:i<l.length):((lI l).drop i).take 1=[ints (nth l i)]:=by
 have:=UA (row:=fun p=>[ints p]) (k:=1) (fun _=>rfl) h
 rwa [El]at this
theorem auI{l:List (List Int)}{i:Nat}(h:i<l.length)(x:List Int):iF (lI l) i [ints x]=lI (l.set i x):=by
 have:=Nz (row:=fun p=>[ints p]) (k:=1) (fun _=>rfl) (x:=x) h
 rwa [El]at this
theorem st0{d:Dm}{s:Ds}{a b c:Int}(h:oL d s a b c=0):fF d=0∧ik d s∧(0≤a∧a≤1073741824)∧(0≤b∧b≤1073741824)∧(0≤c∧c≤1073741824):=by
 unfold oL at h;split at h
 ·rename_i h1;exact absurd h h1
 ·rename_i h1
  split at h
  ·cases h
  ·rename_i h2
   have h1:dE d s=0:=g7 h1;have hd:fF d=0:=by
    unfold dE at h1;split at h1
    ·rename_i h3;exact absurd h1 h3
    ·rename_i h3;exact g7 h3
   simp only[GN,GP,yS,GH,Cf,uV,decide_eq_false_iff_not,not_or,Classical.not_not]at h2;exact⟨hd,(F7 h1).2,h2.1,h2.2.1,h2.2.2⟩
theorem af8{d:Dm}{s:Ds}{a b c:Int}(h:oL d s a b c=0):((0≤(mi d s a b c).tur∧(mi d s a b c).tur≤1073741824)∧(0≤(mi d s a b c).spi∧(mi d s a b c).spi≤17179869184)∧(0≤(mi d s a b c).ovr∧(mi d s a b c).ovr≤1073741824)) ∧
  (0≤(mi d s a b c).los∧(mi d s a b c).los≤1073741824)∧(mB d s a b c).v=s.v+a-(mi d s a b c).los-qf (mi d s a b c):=by
 obtain⟨hd,hf,ha,hb,hc⟩:=st0 h;have rQ:=AB hd;have p:=Uc rQ hf ha hb hc;have hv:=hf.1;have hL:eA s a b=s.v+a-min b (s.v+a):=rfl;have hO:tV d s a b c=max (eA s a b-(gm d s a b c+mh d s a b c)-ld d) 0:=rfl;have Pm:=p.T0;have hTr:=p.Tr;have hP0:=p.P0;have hP1:=p.P1;have e1:(mi d s a b c).los=min b (s.v+a):=rfl;have e2:(mi d s a b c).tur=gm d s a b c:=rfl;have e3:(mi d s a b c).spi=mh d s a b c:=rfl;have e4:(mi d s a b c).ovr=tV d s a b c:=rfl;have e5:(mB d s a b c).v=eA s a b-(gm d s a b c+mh d s a b c)-tV d s a b c:=rfl;unfold qf;rw[e1,e2,e3,e4,e5];omega
theorem Gj{r:Rc}{p:List Int}{x:Int}(h:gI r p x=0):e7 r=0∧iB r p∧(0≤x∧x≤1073741824)∧wo r p x:=by
 unfold gI at h;split at h
 ·rename_i h1;exact absurd h h1
 ·rename_i h1
  split at h
  ·rename_i h2
   split at h
   ·rename_i h3;exact⟨g7 h1,h2,h3⟩
   ·cases h
  ·cases h
theorem Gk{r:Rc}{p:List Int}{x:Int}(h:gI r p x=0):0≤mj r p x∧mj r p x≤1125899906842624:=by
 obtain⟨h1,h2,h3,h4⟩:=Gj h;have hv:=wm h1;have q:=AG hv h2 h3 0;have:=h4 0 (by have:=hv.pos;omega)
 have a:=GI q.1 (show 0≤r.den by have:=hv.den;omega)
 have b:=Ka r.den q.1;unfold mj;omega
theorem UK{l:List (List Int)}{i:Nat}(x:List Int):(lI l).set i (.slice none 1 (x.map fun n=>[i64 n]))=lI (l.set i x):=by
 rcases cF i l.length with h|h
 ·rw[←auI h];rfl
 ·rw[Ei (by simpa using h),Ei h]
set_option maxRecDepth 100000 in
set_option maxHeartbeats 4000000 in
theorem auJ{c:Cs}(hr:lh c.r){p:Sp}{v:Co}{k:Nat}(h:Vc c p v k)(hk:k<v.arr.length)(t:Int)(J:List aS) :
  ∃G',aZ F 176 [.bm 3 0,i64 k] (Gc c p t v J)=some (i64 (vE c p v k),G')∧(vE c p v k=0→G'=Gc c p t (vS c p v k) (J++[.cells [i64 k]])):=by
 suffices hh:∀Q:V→List aS→Prop,(∀G',(vE c p v k=0→G'=Gc c p t (vS c p v k) (J++[.cells [i64 k]]))→Q (i64 (vE c p v k)) G')→gA (aZ F) 176 [.bm 3 0,i64 k] (Gc c p t v J) Q by
  obtain⟨_,G',h,rfl,h1⟩:=hh (fun x G'=>x=i64 (vE c p v k)∧(vE c p v k=0→G'=Gc c p t (vS c p v k) (J++[.cells [i64 k]]))) fun G' g=>⟨rfl,g⟩;exact⟨G',h,h1⟩
 intro Q hQ;refine gM rfl rfl ?_;have cv:=qe h.c0;generalize B4:J++[aS.cells [i64 k]]=J' at hQ;have hJ:J'[J.length]?=some (.cells [i64 k]):=by rw[←B4];exact List.getElem?_concat_length
 have s6:∀G0 G1 G2 G3,aZ F 199 [tX c.s,.fn 200 [.bm (J.length+1+1+1+1) 0]] (G0::G1::G2::G3::J')=some (i64 (uS (lJ c.s k)),G0::G1::G2::G3::J') :=
  fun G0 G1 G2 G3=>aut c.s (by have:=cv.s;omega) k (G:=G0::G1::G2::G3::J') hJ
 have s7:∀G0 G1 G2 G3,aZ F 203 [od c.r.l,.fn 204 [.bm (J.length+1+1+1+1) 0]] (G0::G1::G2::G3::J')=some (i64 (uS (mC c.r.l k)),G0::G1::G2::G3::J') :=
  fun G0 G1 G2 G3=>auu c.r.l (by have:=(oh cv.k).len;omega) k (G:=G0::G1::G2::G3::J') hJ
 have UL:k<v.arr.length:=hk;have lq:=h.ll;have aCN:k≤12:=by have:=h.D2;have:=cv.n;omega
 have sE:=h.rl;have dC:=h.cl;have Fp:∀j,mC c.r.l k=some j→j<c.r.l.length∧j<v.w.length∧(nth c.r.l j).t.toNat<v.arr.length∧0≤(nth c.r.l j).t:=fun j hl=>by
  have hj:=(AI hl).1;have np:j<c.r.l.length:=by omega
  have:=(oh cv.k).link np;have:=h.D2;have:=h.w.1;omega
 cases hs:lJ c.s k with
 |none =>
  have e0:mZ c p v k=0:=by simp only[mZ,hs]
  have e1:fw c p v k=nth v.arr k:=by simp only[fw,hs]
  have eE:vE c p v k=pH c v (nth v.arr k) k:=by rw[vE,e0,e1];rfl
  have e2:vS c p v k=vL c { v with lf:=v.lf++[nth v.arr k] } (nth v.arr k) k:=by rw[vS,vD,e1,hs]
  rw[hs]at s6;cases hl:mC c.r.l k with
  |none =>
   rw[hl]at s7;simp only[uS]at s6 s7;have e3:vE c p v k=0:=by rw[eE,pH,hl]
   rw[e3]at hQ;simp (disch:=omega) [-getElem?_pos,wrap64,BJ,s6,B4,hJ,l8,s7];refine hQ _ fun _=>?_;rw[e2,vL,hl];simp
  |some j =>
   rw[hl]at s7;simp only[uS]at s6 s7;obtain⟨np,yr,UM,hj4⟩:=Fp j hl;have hR:=afN (nth c.r.l j).r (hr.2 j np) (nth v.w j) (by have:=(h.w.2 j np).2.1;have:=(wm (h.w.2 j np).1).len;omega) (nth v.arr k)
   have e3:vE c p v k=gI (nth c.r.l j).r (nth v.w j) (nth v.arr k):=by rw[eE,pH,hl]
   rw[e3]at hQ;by_cases hz:gI (nth c.r.l j).r (nth v.w j) (nth v.arr k)=0
   ·have ho:=Gk hz
    have ha:=h.arr (nth c.r.l j).t.toNat UM;rw[JR hz]at hR;rw[hz]at hQ;simp (disch:=omega) [-getElem?_pos,wrap64,BJ,s6,B4,hJ,l8,s7,bf (l:=c.r.l),NJ,UK,hR];refine hQ _ fun _=>?_;rw[e2,vL,hl];simp
   ·rw[DY rfl hz]at hR
    simp (disch:=omega) [-getElem?_pos,wrap64,BJ,s6,B4,hJ,l8,s7,bf (l:=c.r.l),NJ,hR,hz];exact hQ _ fun g=>absurd g hz
 |some i =>
  rw[hs]at s6;have hi:=(AI hs).1;have UN:i<c.s.length:=by omega
  have nQ:i<v.d.length:=by have:=h.d.1;omega
  have hpb:i<p.b.length:=by have:=h.p;unfold og at this;omega
  have hpc:i<p.c.length:=by have:=h.p;unfold og at this;omega
  obtain⟨Ga,hS⟩:=atl (nth c.s i).d (nth v.d i) (nth v.arr k) (nth p.b i) (nth p.c i);by_cases he:oL (nth c.s i).d (nth v.d i) (nth v.arr k) (nth p.b i) (nth p.c i)=0
  ·have UO:=(af8 he).1
   have e0:mZ c p v k=0:=by simp only[mZ,hs,he]
   have e1:fw c p v k=qf (vR c p v k i):=by simp only[fw,hs]
   have eE:vE c p v k=pH c v (qf (vR c p v k i)) k:=by rw[vE,e0,e1];rfl
   have e2:vS c p v k=vL c { v with d:=v.d.set i (mB (nth c.s i).d (nth v.d i) (nth v.arr k) (nth p.b i) (nth p.c i)),re:=v.re++[vR c p v k i],lf:=v.lf++[qf (vR c p v k i)] } (qf (vR c p v k i)) k:=by rw[vS,vD,e1,hs]
   rw[tW,aM he]at hS;unfold vR at eE e2;generalize mB (nth c.s i).d (nth v.d i) (nth v.arr k) (nth p.b i) (nth p.c i)=S' at hS e2;generalize mi (nth c.s i).d (nth v.d i) (nth v.arr k) (nth p.b i) (nth p.c i)=R' at hS UO eE e2;have hF:=atH R' (by omega) (by omega) (by omega)
   rw[show R'.tur+R'.spi+R'.ovr=qf R' from rfl]at hF;have ez:((((jS v.d).set (i*4) (i64 S'.v)).set (i*4+1) (i64 S'.rel)).set (i*4+1+1) (kn S'.u)).set (i*4+1+1+1) (lC S'.g)=jS (v.d.set i S'):=af6 nQ S';cases hl:mC c.r.l k with
   |none =>
    rw[hl]at s7;simp only[uS]at s6 s7;have e3:vE c p v k=0:=by rw[eE,pH,hl]
    rw[e3]at hQ;simp (disch:=omega) [-getElem?_pos,wrap64,BJ,s6,B4,hJ,l8,s7,bf (l:=c.s),ei (l:=p.b),ei (l:=p.c),NI,hS,hF,ez];refine hQ _ fun _=>?_;rw[e2,vL,hl];simp
   |some j =>
    rw[hl]at s7;simp only[uS]at s6 s7;obtain⟨np,yr,UM,hj4⟩:=Fp j hl;have hR:=afN (nth c.r.l j).r (hr.2 j np) (nth v.w j) (by have:=(h.w.2 j np).2.1;have:=(wm (h.w.2 j np).1).len;omega) (qf R')
    have e3:vE c p v k=gI (nth c.r.l j).r (nth v.w j) (qf R'):=by rw[eE,pH,hl]
    rw[e3]at hQ;by_cases hz:gI (nth c.r.l j).r (nth v.w j) (qf R')=0
    ·have ho:=Gk hz
     have ha:=h.arr (nth c.r.l j).t.toNat UM;rw[JR hz]at hR;rw[hz]at hQ;simp (config:={ maxSteps:=2000000 }) +contextual (disch:=omega) [-getElem?_pos,-List.length_eq_zero_iff,-Int.natCast_eq_zero,wrap64,BJ,s6,B4,hJ,l8,s7,bf (l:=c.r.l),NJ,UK,hR,bf (l:=c.s),ei (l:=p.b),ei (l:=p.c),NI,hS,hF,ez];refine hQ _ fun _=>?_;rw[e2,vL,hl];simp
    ·rw[DY rfl hz]at hR
     simp (config:={ maxSteps:=2000000 }) +contextual (disch:=omega) [-getElem?_pos,-List.length_eq_zero_iff,-Int.natCast_eq_zero,wrap64,BJ,s6,B4,hJ,l8,s7,bf (l:=c.r.l),NJ,hR,hz,bf (l:=c.s),ei (l:=p.b),ei (l:=p.c),NI,hS,hF,ez];exact hQ _ fun g=>absurd g hz
  ·rw[tW,ay he]at hS
   simp only[uS]at s6;have e3:vE c p v k=oL (nth c.s i).d (nth v.d i) (nth v.arr k) (nth p.b i) (nth p.c i):=by
    have:mZ c p v k=oL (nth c.s i).d (nth v.d i) (nth v.arr k) (nth p.b i) (nth p.c i):=by simp only[mZ,hs]
    rw[vE,this,aM he]
   rw[e3]at hQ;have UP:=decide_eq_false he;simp (disch:=omega) [-getElem?_pos,wrap64,BJ,s6,B4,hJ,l8,s7,bf (l:=c.s),ei (l:=p.b),ei (l:=p.c),NI,hS,UP];exact hQ _ fun g=>absurd g he
end Go.Proofs.YtmppfkgfnnebeaaGreatDoor
namespace Go.Proofs.YtmppfkgfnnebeaaGreatDoor
set_option linter.all false
open Go.Vm
theorem aga{f:Nat→Int}:∀n,mY f n≤n
 |0=>bV _
 |n+1=>by
  unfold mY;split
  ·exact Nat.le_succ_of_le (aga n)
  ·exact bV _
theorem agb{f:Nat→Int}:∀n,0<mY f n→f (mY f n-1)≠0
 |0,h=>by simp[mY]at h
 |n+1,h=>by
  unfold mY at h ⊢;split
  ·rename_i h1;rw[aM h1]at h;exact agb n h
  ·rename_i h1;exact h1
theorem agc{f:Nat→Int}{n i:Nat}(h:i<n):nth ((List.range n).map f) i=f i:=by
 simp[nth,h]
theorem agd{r:Rc}{p:List Int}{x:Int}(h:gI r p x=0):iB r (kN r p x):=by
 obtain⟨h1,h2,h3,h4⟩:=Gj h;have hv:=wm h1;have hl:(kN r p x).length=mY (rN r p x) r.w.length:=by simp[kN]
 have hle:=aga (f:=rN r p x) r.w.length;have hn:∀i,i<mY (rN r p x) r.w.length→nth (kN r p x) i=rN r p x i:=fun i hi=>agc hi;refine⟨by omega,fun h0=>?_,fun i hi=>?_⟩
 ·rw[hl]at h0 ⊢
  rw[hn _ (by omega)]
  exact agb _ h0
 ·rw[hn i (by omega)]
  have hd:=hv.den;have q0:=AG hv h2 h3 0;have hb:∀k,k≤r.w.length→0≤rq r p x k∧rq r p x k≤1125899906842624:=fun k hk=>by
   rcases cF k r.w.length with g|g
   ·exact⟨(AG hv h2 h3 k).1,h4 k g⟩
   ·have e:rq r p x k=0:=by unfold rq;rw[wq g,wq (by have:=h2.1;omega)];simp
    rw[e];omega
  unfold rN;split
  ·have:=hb 1 hv.pos
   have:=On (rq r p x 0) (show r.den≠0 by omega)
   have:=Om (rq r p x 0) (show 0<r.den by omega)
   omega
  ·have:=hb (i+1) (by omega)
   omega
theorem NK{α:Type}[Inhabited α]{l:List α}{i j:Nat}{x:α}(h:i<l.length):nth (l.set i x) j=if j=i then x else nth l j:=uR h
theorem age{c:Cs}{p:Sp}{v:Co}{k:Nat}(he:vE c p v k=0):mZ c p v k=0∧pH c v (fw c p v k) k=0:=by
 unfold vE at he;split at he
 ·rename_i h1;exact absurd he h1
 ·rename_i h1;exact⟨g7 h1,he⟩
theorem JU{c:Cs}{p:Sp}{v:Co}{k:Nat}:(vD c p v k).arr=v.arr∧(vD c p v k).w=v.w∧(vD c p v k).cm=v.cm∧(vD c p v k).lf=v.lf++[fw c p v k]:=by
 unfold vD;cases lJ c.s k<;>exact⟨rfl,rfl,rfl,rfl⟩
theorem auL{c:Cs}{p:Sp}{v:Co}{k:Nat}(h:oN c v.d)(h0:mZ c p v k=0):oN c (vD c p v k).d:=by
 unfold vD;unfold mZ at h0;cases hs:lJ c.s k with
 |none=>exact h
 |some i =>
  rw[hs]at h0;have hi:=(AI hs).1;have nQ:i<v.d.length:=by have:=h.1;omega
  obtain⟨g1,g2,ga,gb,gc⟩:=st0 h0;refine⟨by simp only[oR];exact h.1,fun j hj=>?_⟩
  rw[NK nQ];by_cases e:j=i
  ·rw[aM e,e]
   exact⟨g1,atU (AB g1) g2 ga gb gc⟩
  ·rw[ay e]
   exact h.2 j hj
theorem Vc.next{c:Cs}{p:Sp}{v:Co}{k:Nat}(h:Vc c p v k)(he:vE c p v k=0):Vc c p (vS c p v k) (k+1):=by
 have cv:=qe h.c0;obtain⟨h0,hL⟩:=age he;obtain⟨s1,s2,s3,s4⟩:=JU (c:=c) (p:=p) (v:=v) (k:=k);have hd:=auL h.d h0;have Gl:(vD c p v k).re.length≤k+1:=by
  have:=h.rl;unfold vD;cases lJ c.s k<;>simp<;>omega
 have lq:=h.ll;have dC:=h.cl;unfold vS vL;unfold pH at hL;cases hl:mC c.r.l k with
 |none =>
  refine⟨h.c0,h.p,by rw[s1];exact h.D2,fun j hj=>?_,hd,by rw[s2];exact h.w,Gl,by rw[s4];simp;omega,by rw[s3];omega⟩
  rw[s1]at hj ⊢;have:=h.arr j hj;omega
 |some j =>
  rw[hl]at hL;have hj:=(AI hl).1;have hjw:j<v.w.length:=by have:=h.w.1;omega
  have ho:=Gk hL;have hf:=agd hL;have hc:=(Gj hL).1;simp only[s1,s2,s3,s4];refine⟨h.c0,h.p,by simp only[oR];exact h.D2,fun i hi=>?_,hd,⟨by simp only[oR];exact h.w.1,fun i hi=>?_⟩,Gl,by simp;omega,by simp;omega⟩
  ·simp only[oR]at hi
   have Gm:=h.arr i hi;by_cases e:i=(nth c.r.l j).t.toNat
   ·subst e
    rw[NK hi,aM rfl];exact⟨Int.add_nonneg Gm.1 ho.1,AU (Int.add_le_add Gm.2 ho.2) (by omega)⟩
   ·rcases cF (nth c.r.l j).t.toNat v.arr.length with g|g
    ·rw[NK g,ay e];exact⟨Gm.1,AU Gm.2 (by omega)⟩
    ·rw[Ei g];exact⟨Gm.1,AU Gm.2 (by omega)⟩
  ·rw[NK hjw]
   by_cases e:i=j
   ·rw[aM e,e]
    exact⟨hc,hf⟩
   ·rw[ay e]
    exact h.w.2 i hi
noncomputable def cC(c:Cs)(p:Sp)(f:Fl):Nat→Co
 |0=>⟨p.a,f.d,f.w,[],[],[]⟩
 |k+1=>vS c p (cC c p f k) k
noncomputable def gp(c:Cs)(f:Fl)(p:Sp):Int :=
 if og c p then (if fa (p.a++p.b++p.c) 1073741824 then (if f.t=16777216 then 6 else dH (fun k=>vE c p (cC c p f k) k) c.r.n.toNat 0) else 1) else 3
structure Ps where
 re:List Dr
 lf:List Int
 cm:List Int
abbrev Ps.row(x:Ps):List V:=[.slice none 7 (x.re.map Dr.row),ints x.lf,ints x.cm]
abbrev ps(x:Ps):V:=.agg x.row
noncomputable def tZ(c:Cs)(f:Fl)(p:Sp):Fl:=⟨f.t+1,(cC c p f c.r.n.toNat).d,(cC c p f c.r.n.toNat).w⟩
noncomputable def AN(c:Cs)(f:Fl)(p:Sp):Ps:=⟨(cC c p f c.r.n.toNat).re,(cC c p f c.r.n.toNat).lf,(cC c p f c.r.n.toNat).cm⟩
abbrev paX(e:Int):V:=.tuple [.agg [i64 0,.slice (some 0) 4 [],.slice (some 0) 1 []],.agg [.slice (some 0) 7 [],.slice (some 0) 1 [],.slice (some 0) 1 []],i64 e]
noncomputable def B5(c:Cs)(f:Fl)(p:Sp)(e:Int):V:=if e=0 then .tuple [fl (tZ c f p),ps (AN c f p),i64 0] else paX e
theorem agf{l:List Int}:(l.any fun x => !decide (0≤x∧x≤1073741824)) = !decide (fa l 1073741824):=by
 by_cases h:fa l 1073741824
 ·rw[jf h]
  refine nF.2 fun x hx=>?_;obtain⟨i,hi,rfl⟩:=VY.1 hx;have:=h i hi;rw[show nth l i=l[i] by simp[nth,hi]]at this
  simp;exact this
 ·rw[decide_eq_false h]
  cases hb:l.any fun x => !decide (0≤x∧x≤1073741824) with
  |true=>rfl
  |false =>
   refine absurd (fun i hi=>?_) h;have:=nF.1 hb (nth l i) (sX hi);simpa using this
theorem vc0{c:Cs}{f:Fl}{p:Sp}(hc:e8 c=0)(hf:eR c f)(hp:og c p)(ha:fa (p.a++p.b++p.c) 1073741824):Vc c p (cC c p f 0) 0:=by
 refine⟨hc,hp,hp.1,fun j hj=>?_,hf.2.1,hf.2.2,by simp[cC],by simp[cC],by simp[cC]⟩
 have hj:j<p.a.length:=hj;have:=ha j (by simp;omega)
 rw[rI (by simp;omega),rI hj]at this
 show 0≤nth p.a j∧nth p.a j≤_;omega
theorem vcs{c:Cs}{f:Fl}{p:Sp}(hc:e8 c=0)(hf:eR c f)(hp:og c p)(ha:fa (p.a++p.b++p.c) 1073741824):∀{k:Nat},(∀j,j<k→vE c p (cC c p f j) j=0)→Vc c p (cC c p f k) k
 |0,_=>vc0 hc hf hp ha
 |k+1,h=>(vcs hc hf hp ha fun j hj=>h j (by omega)).next (h k (by omega))
end Go.Proofs.YtmppfkgfnnebeaaGreatDoor
namespace Go.Proofs.YtmppfkgfnnebeaaGreatDoor
set_option linter.all false
open Go.Vm
attribute [local simp] lZ l7 lX lY
theorem UQ{c:Cs}{l:List (List Int)}(hk:jR c.r=0)(h:Gd c l):UC l:=by
 have hl:=(oh hk).len;refine⟨by have:=h.1;omega,fun i hi=>?_⟩
 have pT:i<c.r.l.length:=by have:=h.1;omega
 have:=(h.2 i pT).2.1;have:=(wm (h.2 i pT).1).len;omega
theorem auR{id t:Nat}{l:List Int}(hl:l≠[]):kz id 0 (.slice (some t) 1 (l.map fun n=>[V.int .i64 n]))=some (.bR id 1 l.length,some (dD l)):=by
 have h:=Y3 (id:=id) (t:=t) (l:=l) (vs:=[]) rfl hl;simp[kz,h]
theorem auS{p:List Int}:(dD p).all V.sc=true:=by simp[dD,V.sc]
set_option maxRecDepth 100000 in
set_option maxHeartbeats 2000000 in
theorem agh{c:Cs}(hr:lh c.r)(hc:e8 c=0){f:Fl}(hf:eR c f)(p:Sp):∃G',aZ F 131 [cs c,fl f,sv p] []=some (B5 c f p (gp c f p),G'):=by
 suffices h:∀Q:V→Prop,Q (B5 c f p (gp c f p))→gA (aZ F) 131 [cs c,fl f,sv p] [] fun v _=>Q v by
  obtain⟨_,G',h,rfl⟩:=h (fun v=>v=B5 c f p (gp c f p)) rfl;exact⟨G',h⟩
 intro Q hQ;refine gM rfl rfl ?_;have cv:=qe hc;have kv:=oh cv.k;have yV:=auy c p;by_cases h1:og c p
 case neg =>
  rw[show gp c f p=3 by unfold gp;rw[ay h1]]at hQ
  simp (disch:=omega) [wrap64,IN,yV,h1];exact hQ
 have sI:p.a.length≤12:=by have:=h1.1;have:=cv.n;omega
 have Nn:p.b.length≤6:=by have:=h1.2.1;have:=cv.s;omega
 have dC:p.c.length≤6:=by have:=h1.2.2;have:=cv.s;omega
 have h2:=auw p.a p.b p.c (by omega)
 have h3:=Np (p.a++p.b++p.c) (by simp;omega) (fun x => !decide (0≤x∧x≤1073741824)) 175 [] (fun n=>auv n [])
 rw[agf]at h3;by_cases h4:fa (p.a++p.b++p.c) 1073741824
 case neg =>
  rw[show gp c f p=1 by unfold gp;rw[aM h1,ay h4]]at hQ
  rw[decide_eq_false h4]at h3;generalize p.a++p.b++p.c=L at h2 h3;simp (disch:=omega) [wrap64,IN,yV,h1,h2,h3];exact hQ
 rw[jf h4]at h3;have e4:=h4;generalize p.a++p.b++p.c=L at h2 h3;by_cases h5:f.t=16777216
 ·rw[show gp c f p=6 by unfold gp;rw[aM h1,aM e4,aM h5]]at hQ
  simp (disch:=omega) [wrap64,IN,yV,h1,h2,h3,h5];exact hQ
 have h6:gp c f p=dH (fun k=>vE c p (cC c p f k) k) c.r.n.toNat 0:=by unfold gp;rw[aM h1,aM e4,ay h5]
 have h7:=afX f.d (ND hc hf.2.1) [];have h8:=afY f.w (UQ cv.k hf.2.2) [.cells (jS f.d)];have h9:=UD p.a (by omega)
 have auT:=hf.1;have auU:p.a≠[]:=fun g=>by have:=h1.1;rw[g]at this;have:=kv.n;simp at *;omega
 have NL:0<p.a.length:=by have:=h1.1;have:=kv.n;omega
 simp (disch:=omega) [wrap64,IN,yV,h1,h2,h3,h5,h7,h8,h9,auR auU,auS,NL];have yq:=kv.n;refine go_loop (fun x:Nat×List aS=>aom (.bm 3 0) c.r.n x.1 [z0,.cb,.cb] [.cb,.cb,.cb] (Gc c p (f.t+1) (cC c p f x.1) x.2))
  (fun x=>x.1≤c.r.n.toNat∧(∀j,j<x.1→vE c p (cC c p f j) j=0)∧dH (fun k=>vE c p (cC c p f k) k) (c.r.n.toNat-x.1) x.1=gp c f p) (fun x=>c.r.n.toNat-x.1) (0,[]) rfl (by simp[cC]) ⟨by omega,by simp,h6.symm⟩ ?_
 rintro⟨k,J⟩ ⟨hk,hz,hq⟩;simp only at hk hz hq;have Gn:=vcs hc hf h1 e4 hz;simp (disch:=omega) [wrap64,abg];refine bT (fun gx=>?_) (fun gx=>?_)
 ·have jQ:k<c.r.n.toNat:=by omega
  have UL:k<(cC c p f k).arr.length:=by have:=Gn.D2;omega
  obtain⟨G',hv,hv2⟩:=auJ hr Gn UL (f.t+1) J;rw[kZ jQ]at hq;by_cases Bi:vE c p (cC c p f k) k=0
  ·obtain rfl:=hv2 Bi
   rw[aM Bi]at hq;rw[Bi]at hv;simp (disch:=omega) [wrap64,hv];refine bP (k+1,J++[.cells [i64 k]]) (by simp[cC]) ⟨by simp only;omega,fun j hj=>?_,hq⟩ (by simp only;omega)
   rcases cF j k with g|g
   ·exact hz j g
   ·rwa [show j=k by simp only at hj;omega]
  ·rw[ay Bi]at hq
   rw[←hq,B5,ay Bi]at hQ;simp (disch:=omega) [wrap64,hv,Bi];exact hQ
 ·obtain rfl:k=c.r.n.toNat:=by omega
  rw[mO]at hq;rw[←hq,B5,aM rfl]at hQ;simp (disch:=omega) [wrap64,B3,Gf];exact hQ
abbrev agi(t:Option Nat)(e:Int):V:=.tuple [.agg [i64 0,.slice t 4 [],.slice t 1 []],.agg [.slice t 7 [],.slice t 1 [],.slice t 1 []],i64 e]
noncomputable def oO(c:Cs)(f:Fl)(p:Sp):Int:=if kO c f≠0 then kO c f else gp c f p
noncomputable def xJ(t:Option Nat)(c:Cs)(f:Fl)(p:Sp):V:=if oO c f p=0 then .tuple [fl (tZ c f p),ps (AN c f p),i64 0] else agi t (oO c f p)
theorem Dd{c:Cs}{f:Fl}(h:kO c f=0):e8 c=0∧eR c f:=by
 unfold kO at h;split at h
 ·rename_i h1;exact absurd h h1
 ·rename_i h1
  split at h
  ·exact⟨g7 h1,by assumption⟩
  ·cases h
theorem auW{c:Cs}(hr:lh c.r){f:Fl}(hf:oe f)(p:Sp):∃t G',aZ F 86 [cs c,fl f,sv p] []=some (xJ t c f p,G'):=by
 have hd:=afP c hr f hf;by_cases hz:kO c f=0
 ·obtain⟨h1,h2⟩:=Dd hz
  obtain⟨Ga,hp⟩:=agh hr h1 h2 p;have e:oO c f p=gp c f p:=by unfold oO;rw[ay (by omega)]
  refine⟨none,[],?_⟩;unfold xJ;rw[e];unfold B5 at hp;by_cases h3:gp c f p=0
  ·rw[aM h3]at hp ⊢
   refine bM rfl rfl ?_;simp[wrap64,Md,hd,hz,hp]
  ·rw[ay h3]at hp ⊢
   refine bM rfl rfl ?_;simp[wrap64,Md,hd,hz,hp]
 ·have e:oO c f p=kO c f:=by unfold oO;rw[aM hz]
  refine⟨some 0,[],?_⟩;unfold xJ;rw[e,ay hz];refine bM rfl rfl ?_;simp[wrap64,Md,hd,hz]
def AO(g:Nat→Int)(n:Nat)(m:Nat)(k:Int):Prop:=m≤n∧(∀j,j<m→g j<k)∧∀j,m≤j→j<n→k≤g j
theorem yY{g:Nat→Int}{n m i:Nat}{k:Int}(h:AO g n m k)(MZ:∀j,0<j→j<n→g (j-1)<g j)(hi:i<n)(hg:g i=k):i=m∧AO g n (m+1) (k+1):=by
 have agj:∀a d,a+d+1<n→g a<g (a+d+1):=fun a d=>by
  induction d with
  |zero=>intro hd;have:=MZ (a+0+1) (by omega) hd;simpa using this
  |succ d ih =>
   intro hd;have h1:=ih (by omega)
   have h2:=MZ (a+(d+1)+1) (by omega) hd
   rw[show a+(d+1)+1-1=a+d+1 by omega]at h2
   omega
 have hmi:m≤i:=by
  rcases cF i m with g1|g1
  ·have:=h.2.1 i g1;omega
  ·exact g1
 have him:i=m:=by
  rcases cF m i with g1|g1
  ·have h1:=agj m (i-m-1) (by omega)
   rw[show m+(i-m-1)+1=i by omega]at h1
   have:=h.2.2 m (bV _) (by omega)
   omega
  ·omega
 subst him;refine⟨rfl,by omega,fun j hj=>?_,fun j hj hn=>?_⟩
 ·rcases cF j i with g1|g1
  ·have:=h.2.1 j g1;omega
  ·rw[show j=i by omega];omega
 ·have h1:=agj i (j-i-1) (by omega)
  rw[show i+(j-i-1)+1=j by omega]at h1
  omega
theorem agk{g:Nat→Int}{n m:Nat}{k:Int}(h:AO g n m k)(hg:∀i,i<n→g i≠k):AO g n m (k+1) :=
 ⟨h.1,fun j hj=>by have:=h.2.1 j hj;omega,fun j hj hn=>by have:=h.2.2 j hj hn;have:=hg j hn;omega⟩
theorem agl{g:Nat→Int}{n:Nat}(h:∀j,j<n→0≤g j):AO g n 0 0:=⟨by omega,by omega,fun j _ hj=>h j hj⟩
theorem agm{g:Nat→Int}{n m:Nat}{k:Int}(h:AO g n m k)(hk:∀j,j<n→g j<k):m=n:=by
 have h1:=h.1;rcases cF m n with g1|g1
 ·have:=h.2.2 m (bV _) g1
  have:=hk m g1;omega
 ·omega
abbrev ua(c:Cs):Nat→Int:=fun i=>(nth c.s i).n
abbrev AP(c:Cs):Nat→Int:=fun i=>(nth c.r.l i).f
theorem yZ{c:Cs}(h:yW c){i:Nat}(hi:i<c.s.length):(0≤ua c i∧ua c i<c.r.n)∧(0<i→ua c (i-1)<ua c i)∧fF (nth c.s i).d=0:=by
 have he:=h.site i hi;unfold AH at he;simp only at he;split at he
 ·split at he
  ·cases he
  ·rename_i h1 h2
   refine⟨h1,fun h0=>?_,he⟩;show(nth c.s (i-1)).n<(nth c.s i).n;omega
 ·cases he
structure Vo(c:Cs)(v:Co)(k:Nat):Prop where
 s:AO (ua c) c.s.length v.re.length k
 l:AO (AP c) c.r.l.length v.cm.length k
theorem NM{c:Cs}{k:Nat}(h:lJ c.s k=none):∀i,i<c.s.length→ua c i≠k:=fun i hi=>by
 have:=UE h i (by omega) (by omega)
 simpa using this
theorem y5{c:Cs}{k i:Nat}(h:lJ c.s k=some i):i<c.s.length∧ua c i=k:=by
 have:=AI h;exact⟨by omega,by simpa using this.2.1⟩
theorem agn{c:Cs}{k:Nat}(h:mC c.r.l k=none):∀i,i<c.r.l.length→AP c i≠k:=fun i hi=>by
 have:=UE h i (by omega) (by omega)
 simpa using this
theorem B6{c:Cs}{k i:Nat}(h:mC c.r.l k=some i):i<c.r.l.length∧AP c i=k:=by
 have:=AI h;exact⟨by omega,by simpa using this.2.1⟩
theorem vo0{c:Cs}(h:yW c)(p:Sp)(f:Fl):Vo c (cC c p f 0) 0 :=
 ⟨agl fun j hj=>(yZ h hj).1.1,agl fun j hj=>((oh h.k).link hj).1.1⟩
theorem Vo.next{c:Cs}(hc:yW c){p:Sp}{v:Co}{k:Nat}(h:Vo c v k):Vo c (vS c p v k) (k+1):=by
 obtain⟨s1,s2,s3,s4⟩:=JU (c:=c) (p:=p) (v:=v) (k:=k);have hs:AO (ua c) c.s.length (vD c p v k).re.length (k+1:Int):=by
  unfold vD;cases hs:lJ c.s k with
  |none=>exact agk h.s (NM hs)
  |some i =>
   obtain⟨a,b⟩:=y5 hs;simp only[m9,qh];exact(yY h.s (fun j h0 hj=>(yZ hc hj).2.1 h0) a b).2
 unfold vS vL;cases hl:mC c.r.l k with
 |none =>
  refine⟨hs,?_⟩;rw[s3];exact agk h.l (agn hl)
 |some j =>
  obtain⟨a,b⟩:=B6 hl;refine⟨hs,?_⟩;simp only[s3,m9,qh];exact(yY h.l (fun j h0 hj=>((oh hc.k).link hj).2.1 h0) a b).2
theorem JV{c:Cs}(hc:yW c)(p:Sp)(f:Fl):∀k,Vo c (cC c p f k) k
 |0=>vo0 hc p f
 |k+1=>(JV hc p f k).next hc
theorem ago{c:Cs}(hc:yW c)(p:Sp)(f:Fl):(cC c p f c.r.n.toNat).re.length=c.s.length∧(cC c p f c.r.n.toNat).cm.length=c.r.l.length:=by
 have h:=JV hc p f c.r.n.toNat;have hn:=(oh hc.k).n;exact⟨agm h.s fun j hj=>by have:=(yZ hc hj).1;omega,agm h.l fun j hj=>by have:=((oh hc.k).link hj).1;show(nth c.r.l j).f<_;omega⟩
end Go.Proofs.YtmppfkgfnnebeaaGreatDoor
namespace Go.Proofs.YtmppfkgfnnebeaaGreatDoor
set_option linter.all false
open Go.Vm
def pad{α:Type}(d:α)(l:List α)(n:Nat):List α:=l++List.replicate (n-l.length) d
theorem NN{α:Type}{d:α}{l:List α}{n:Nat}(h:l.length≤n):(pad d l n).length=n:=by simp[pad];omega
theorem UR{α:Type}{d:α}{l:List α}{n:Nat}(h:l.length=n):pad d l n=l:=by simp[pad,h]
theorem US{α:Type}{d x:α}{l:List α}{n i:Nat}(hi:i=l.length)(h:l.length<n):(pad d l n).set i x=pad d (l++[x]) n:=by
 subst hi;unfold pad;obtain⟨m,hm⟩:∃m,n-l.length=m+1:=⟨n-l.length-1,by omega⟩
 rw[hm,AY,Cq _ _ (bV _),sb,Kr,m9,qh,show n-(l.length+1)=m by omega,uW,V2]
def B7:Dr:=⟨0,0,0,0,0,0,0⟩
def wy(l:List Dr):List V:=(l.map Dr.row).flatten
@[simp] theorem aCR{l:List Dr}:(wy l).length=l.length*7:=Ny (row:=Dr.row) (fun _=>rfl) l
@[simp] theorem aCS{l:List Dr}{d:Nat}:((wy l).all fun v => !V.cA d v)=true:=NC (row:=Dr.row) (fun a=>by simp) l
theorem auZ{n:Nat}:(List.replicate n [V.int .i64 0,V.int .i64 0,V.int .i64 0,V.int .i64 0,V.int .i64 0,V.int .i64 0,V.int .i64 0]).flatten=wy (pad B7 [] n):=by
 simp[wy,pad,Ko,B7]
theorem au0{l:List Dr}{n:Nat}(h:n=l.length):kc [none,none,none,none,none,none,none] (chunks 7 (wy l) 0 n)=some (l.map Dr.row):=by
 subst h;rw[NA (row:=Dr.row) (fun _=>rfl) rfl];exact NB (fun a=>by simp) l
theorem au1{n:Nat}:List.replicate n z0=dD (pad 0 [] n):=by simp[pad,dD]
theorem agp{c:Cs}{u:Co}{x:Int}{k:Nat}:(vL c u x k).re=u.re∧(vL c u x k).lf=u.lf∧(vL c u x k).d=u.d:=by
 unfold vL;cases mC c.r.l k<;>exact⟨rfl,rfl,rfl⟩
theorem agq{c:Cs}{u v:Co}{x:Int}{k:Nat}(h1:u.arr=v.arr)(h2:u.w=v.w)(h3:u.cm=v.cm):(vL c u x k).arr=(vL c v x k).arr∧(vL c u x k).w=(vL c v x k).w∧(vL c u x k).cm=(vL c v x k).cm:=by
 unfold vL;cases mC c.r.l k
 ·exact⟨h1,h2,h3⟩
 ·simp only[h1,h2,h3,and_self]
theorem au2{l:List Int}{m:Int}:fa l m↔∀x∈l,0≤x∧x≤m:=by
 refine⟨fun h x hx=>?_,fun h i hi=>h _ (sX hi)⟩;obtain⟨i,hi,rfl⟩:=VY.1 hx;have:=h i hi
 rwa [show nth l i=l[i] by simp[nth,hi]]at this
theorem agr{a b:List Int}{m:Int}:fa (a++b) m↔fa a m∧fa b m:=by
 simp only[au2,ot];exact⟨fun h=>⟨fun x hx=>h x (.inl hx),fun x hx=>h x (.inr hx)⟩,fun h x hx=>hx.elim (h.1 x) (h.2 x)⟩
theorem au3{l:List Dr}{i:Nat}(h:i<l.length)(x:Dr):iF (wy l) (i*7) x.row=wy (l.set i x):=Nz (row:=Dr.row) (fun _=>rfl) h
structure Vf(f:Fl)(v:Co):Prop where
 d:v.d.length=f.d.length∧∀i,v.re.length≤i→nth v.d i=nth f.d i
 w:v.w.length=f.w.length∧∀i,v.cm.length≤i→nth v.w i=nth f.w i
theorem Vf.next{c:Cs}(hc:yW c){p:Sp}{f:Fl}{v:Co}{k:Nat}(h:Vf f v)(ho:Vo c v k):Vf f (vS c p v k):=by
 obtain⟨s1,s2,s3,s4⟩:=JU (c:=c) (p:=p) (v:=v) (k:=k);have hd:(vD c p v k).d.length=f.d.length∧∀i,(vD c p v k).re.length≤i→nth (vD c p v k).d i=nth f.d i:=by
  unfold vD;cases hs:lJ c.s k with
  |none=>exact h.d
  |some i =>
   obtain⟨a,b⟩:=y5 hs;have e:=(yY ho.s (fun j h0 hj=>(yZ hc hj).2.1 h0) a b).1;refine⟨by simp only[oR];exact h.d.1,fun j hj=>?_⟩
   simp only[m9,qh]at hj;show nth (v.d.set i _) j=nth f.d j;rcases cF i v.d.length with g|g
   ·rw[uR g,ay (by omega)]
    exact h.d.2 j (by omega)
   ·rw[Ei g]
    exact h.d.2 j (by omega)
 unfold vS vL;cases hl:mC c.r.l k with
 |none=>exact⟨hd,by rw[s2,s3];exact h.w⟩
 |some j =>
  obtain⟨a,b⟩:=B6 hl;have e:=(yY ho.l (fun j h0 hj=>((oh hc.k).link hj).2.1 h0) a b).1;refine⟨hd,?_⟩;simp only[s2,s3];refine⟨by simp only[oR];exact h.w.1,fun i hi=>?_⟩
  simp only[m9,qh]at hi;rcases cF j v.w.length with g|g
  ·rw[uR g,ay (by omega)]
   exact h.w.2 i (by omega)
  ·rw[Ei g]
   exact h.w.2 i (by omega)
theorem UT{c:Cs}(hc:yW c)(p:Sp)(f:Fl):∀k,Vf f (cC c p f k)
 |0=>⟨⟨rfl,fun _ _=>rfl⟩,⟨rfl,fun _ _=>rfl⟩⟩
 |k+1=>(UT hc p f k).next hc (JV hc p f k)
theorem au4{c:Cs}{k i:Nat}(h:∀j,j<i→ua c j≠k)(hi:i<c.s.length)(hk:ua c i=k):lJ c.s k=some i:=by
 cases hs:lJ c.s k with
 |none=>exact absurd hk (NM hs i hi)
 |some j =>
  have h1:=AI hs;obtain⟨a,b⟩:=y5 hs;rcases G5 j i with g|g|g
  ·exact absurd b (h j g)
  ·rw[g]
  ·have:=h1.2.2 i (by omega) g
   have hk:(nth c.s i).n=k:=hk;simp[hk]at this
theorem au5{c:Cs}{k i:Nat}(h:∀j,j<i→AP c j≠k)(hi:i<c.r.l.length)(hk:AP c i=k):mC c.r.l k=some i:=by
 cases hs:mC c.r.l k with
 |none=>exact absurd hk (agn hs i hi)
 |some j =>
  have h1:=AI hs;obtain⟨a,b⟩:=B6 hs;rcases G5 j i with g|g|g
  ·exact absurd b (h j g)
  ·rw[g]
  ·have:=h1.2.2 i (by omega) g
   have hk:(nth c.r.l i).f=k:=hk;simp[hk]at this
theorem au6{c:Cs}{k:Nat}(h:∀j,j<c.s.length→ua c j≠k):lJ c.s k=none:=by
 cases hs:lJ c.s k with
 |none=>rfl
 |some j=>exact absurd (y5 hs).2 (h j (y5 hs).1)
theorem au7{c:Cs}{k:Nat}(h:∀j,j<c.r.l.length→AP c j≠k):mC c.r.l k=none:=by
 cases hs:mC c.r.l k with
 |none=>rfl
 |some j=>exact absurd (B6 hs).2 (h j (B6 hs).1)
end Go.Proofs.YtmppfkgfnnebeaaGreatDoor
namespace Go.Proofs.YtmppfkgfnnebeaaGreatDoor
set_option linter.all false
open Go.Vm
attribute [local simp] lZ l7 lX lY
set_option maxRecDepth 100000 in
set_option maxHeartbeats 8000000 in
theorem au8{c:Cs}(hr:lh c.r){f:Fl}(hf:oe f){p:Sp}(my:p.a.length≤1000∧p.b.length≤1000∧p.c.length≤1000):∃G',aZ F 19 [cs c,fl f,sv p] []=some (xJ (some 0) c f p,G'):=by
 suffices h:∀Q:V→Prop,Q (xJ (some 0) c f p)→gA (aZ F) 19 [cs c,fl f,sv p] [] fun v _=>Q v by
  obtain⟨_,G',h,rfl⟩:=h (fun v=>v=xJ (some 0) c f p) rfl;exact⟨G',h⟩
 intro Q hQ;refine gM rfl rfl ?_;have hc:=Uz c hr;have hv:=afQ c hr f hf;have err:∀e,oO c f p=e→e≠0→Q (agi (some 0) e):=fun e h he=>by
  unfold xJ at hQ
  rwa [h,ay he]at hQ
 by_cases hz:e8 c=0
 case neg =>
  simp (disch:=omega) [-getElem?_pos,wrap64,yK,hc,hz];exact err _ (by unfold oO kO;rw[aM hz,aM hz]) hz
 by_cases jk:eR c f
 case neg =>
  have h0:decide (e8 c=0∧eR c f)=false:=decide_eq_false fun g=>jk g.2;rw[h0]at hv;simp (disch:=omega) [-getElem?_pos,wrap64,yK,hc,hz,hv];have hrd:kO c f=50:=by unfold kO;rw[ay (by omega),ay jk]
  exact err 50 (by unfold oO;rw[hrd];rfl) (by decide)
 have hrd:kO c f=0:=by unfold kO;rw[ay (by omega),aM jk]
 have fU:oO c f p=gp c f p:=by unfold oO;rw[ay (by omega)]
 rw[fU]at err;rw[jf ⟨hz,jk⟩]at hv;have cv:=qe hz;have kv:=oh cv.k;have jQ:=kv.n;by_cases h1:(p.a.length:Int)=c.r.n
 case neg =>
  simp (disch:=omega) [-getElem?_pos,wrap64,yK,hc,hz,hv,h1];exact err 3 (by unfold gp;rw[ay fun g=>h1 g.1]) (by decide)
 by_cases h2:p.b.length=c.s.length
 case neg =>
  have mW:¬ (p.b.length:Int)=c.s.length:=by omega
  simp (disch:=omega) [-getElem?_pos,wrap64,yK,hc,hz,hv,h1,mW];exact err 3 (by unfold gp;rw[ay fun g=>h2 g.2.1]) (by decide)
 have mW:(p.b.length:Int)=c.s.length:=by omega
 by_cases h3:p.c.length=c.s.length
 case neg =>
  have ja:¬ (p.c.length:Int)=c.s.length:=by omega
  simp (disch:=omega) [-getElem?_pos,wrap64,yK,hc,hz,hv,h1,mW,ja];exact err 3 (by unfold gp;rw[ay fun g=>h3 g.2.2]) (by decide)
 have ja:(p.c.length:Int)=c.s.length:=by omega
 have ia:og c p:=⟨h1,h2,h3⟩;have ha:=UF p.a my.1 1073741824;have hb:=UF p.b my.2.1 1073741824;have xg:=UF p.c my.2.2 1073741824;have app:fa (p.a++p.b++p.c) 1073741824↔fa p.a 1073741824∧fa p.b 1073741824∧fa p.c 1073741824:=by
  rw[agr,agr,and_assoc]
 by_cases g1:fa p.a 1073741824
 case neg =>
  simp (disch:=omega) [-getElem?_pos,wrap64,yK,hc,hz,hv,h1,mW,ja,ha,g1];exact err 1 (by unfold gp;rw[aM ia,ay fun g=>g1 (app.1 g).1]) (by decide)
 by_cases g2:fa p.b 1073741824
 case neg =>
  simp (disch:=omega) [-getElem?_pos,wrap64,yK,hc,hz,hv,h1,mW,ja,ha,g1,hb,g2];exact err 1 (by unfold gp;rw[aM ia,ay fun g=>g2 (app.1 g).2.1]) (by decide)
 by_cases g3:fa p.c 1073741824
 case neg =>
  simp (disch:=omega) [-getElem?_pos,wrap64,yK,hc,hz,hv,h1,mW,ja,ha,g1,hb,g2,xg,g3];exact err 1 (by unfold gp;rw[aM ia,ay fun g=>g3 (app.1 g).2.2]) (by decide)
 have sH:=app.2 ⟨g1,g2,g3⟩;have hcy:=aus f (ND hz jk.2.1) (UQ cv.k jk.2.2);have auT:=jk.1;have KR:=cv.s;have lq:=kv.len;have NL:0<p.a.length:=by omega
 have LI:f.d.length=c.s.length:=jk.2.1.1;have hwl:f.w.length=c.r.l.length:=jk.2.2.1;simp (disch:=omega) [-getElem?_pos,wrap64,yK,hc,hz,hv,h1,mW,ja,ha,g1,hb,g2,xg,g3];refine bT (fun g4=>?_) (fun g4=>?_)
 ·exact err 6 (by unfold gp;rw[aM ia,aM sH,aM g4]) (by decide)
 have hE:gp c f p=dH (fun k=>vE c p (cC c p f k) k) c.r.n.toNat 0:=by unfold gp;rw[aM ia,aM sH,ay g4]
 have Ff:p.a.isEmpty=false:=by
  cases hp:p.a with
  |nil=>rw[hp]at NL;simp at NL
  |cons a l=>rfl
 simp (disch:=omega) [-getElem?_pos,wrap64,hcy,auZ,Ff];refine go_loop (fun k:Nat=>amc p.a.length k c.row f.row p.row [i64 0,.cb,.cb] [.cb,.cb,.cb] [i64 (f.t+1),.c5 0 4 f.d.length,.c5 1 1 f.w.length]
   [.bR 100 7 c.s.length,.bR 104 1 c.r.n.toNat,.bR 109 1 c.r.l.length] (wy (pad B7 (cC c p f k).re c.s.length)) (dD (pad 0 (cC c p f k).lf c.r.n.toNat)) (dD (pad 0 (cC c p f k).cm c.r.l.length)) (dD (cC c p f k).arr)
   [.cells (jS (cC c p f k).d),.cells (lI (cC c p f k).w)])
  (fun k=>k≤c.r.n.toNat∧(∀j,j<k→vE c p (cC c p f j) j=0)∧dH (fun k=>vE c p (cC c p f k) k) (c.r.n.toNat-k) k=gp c f p) (fun k=>c.r.n.toNat-k) 0 rfl (by simp[cC,au1]) ⟨by omega,by omega,hE.symm⟩ ?_
 rintro k ⟨hk,hzk,hq⟩;have Gn:=vcs hz jk ia sH hzk;have zR:=JV cv p f k;have LC:=UT cv p f k;have Fk:=LC.d;have hww:=LC.w;have aCU:=Gn.D2;have avb:=Gn.ll;have Fb:=zR.s.1;have avc:=zR.l.1;have ecv:cC c p f (k+1)=vS c p (cC c p f k) k:=rfl;simp (disch:=omega) [-getElem?_pos,wrap64,ZN];refine bT (fun gx=>?_) (fun gx=>?_)
 ·have ave:k<c.r.n.toNat:=by omega
  rw[kZ ave]at hq;generalize Jj:cC c p f k=v at *;have UL:k<v.arr.length:=by omega
  simp (disch:=omega) [-getElem?_pos,wrap64,l8];obtain⟨s1,s2,s3,s4⟩:=JU (c:=c) (p:=p) (v:=v) (k:=k);refine go_loop (fun y:Nat×Co×Int=>al2 p.a.length k y.2.2 (tX c.s) c.s.length y.1 c.row f.row p.row [i64 0,.cb,.cb] [.cb,.cb,.cb] [i64 (f.t+1),.c5 0 4 f.d.length,.c5 1 1 f.w.length]
    [.bR 100 7 c.s.length,.bR 104 1 c.r.n.toNat,.bR 109 1 c.r.l.length] (wy (pad B7 y.2.1.re c.s.length)) (dD (pad 0 v.lf c.r.n.toNat)) (dD (pad 0 v.cm c.r.l.length)) (dD v.arr) [.cells (jS y.2.1.d),.cells (lI v.w)])
   (fun y=>y.1≤c.s.length∧((y.2.1=v∧y.2.2=nth v.arr k∧∀j,j<y.1→ua c j≠k)∨(y.2.1=vD c p v k∧y.2.2=fw c p v k∧mZ c p v k=0∧∃j,j<y.1∧lJ c.s k=some j)))
   (fun y=>c.s.length-y.1) (0,v,nth v.arr k) rfl (by simp) ⟨by simp,.inl ⟨rfl,rfl,by simp⟩⟩ ?_
  rintro⟨i,u,x⟩ ⟨hi,hu⟩;simp only at hi hu;have avf:(pad B7 v.re c.s.length).length=c.s.length:=NN Fb;simp (disch:=omega) [-getElem?_pos,wrap64,ZL];refine bT (fun h5=>?_) (fun h5=>?_)
  ·have h5:i<c.s.length:=by omega
   have h6:i<f.d.length:=by omega
   have h7:i<p.b.length:=by omega
   have h8:i<p.c.length:=by omega
   simp (disch:=omega) [-getElem?_pos,wrap64,bf (l:=c.s)];refine bT (fun h9=>?_) (fun h9=>?_)
   ·have hs:lJ c.s k=some i∧u=v∧x=nth v.arr k∧i=v.re.length:=by
     have e:=(yY zR.s (fun j h0 hj=>(yZ cv hj).2.1 h0) h5 h9).1;rcases hu with⟨a,b,d⟩ | ⟨_,_,_,j,hj,hs⟩
     ·exact⟨au4 d h5 h9,a,b,e⟩
     ·have:=(yY zR.s (fun j h0 hj=>(yZ cv hj).2.1 h0) (y5 hs).1 (y5 hs).2).1
      omega
    obtain⟨hs,rfl,rfl,Gl⟩:=hs;have NP:nth u.d i=nth f.d i:=Fk.2 i (by omega)
    obtain⟨Ga,hS⟩:=at1 (nth c.s i).d (nth f.d i) (nth u.arr k) (nth p.b i) (nth p.c i);by_cases he:oL (nth c.s i).d (nth f.d i) (nth u.arr k) (nth p.b i) (nth p.c i)=0
    ·have UO:=(af8 he).1
     have e0:mZ c p u k=0:=by simp only[mZ,hs,NP,he]
     have e1:fw c p u k=qf (vR c p u k i):=by simp only[fw,hs]
     have e2:vD c p u k={ u with d:=u.d.set i (mB (nth c.s i).d (nth f.d i) (nth u.arr k) (nth p.b i) (nth p.c i)),re:=u.re++[vR c p u k i],lf:=u.lf++[fw c p u k] }:=by rw[vD,hs,← NP]
     have e3:vR c p u k i=mi (nth c.s i).d (nth f.d i) (nth u.arr k) (nth p.b i) (nth p.c i):=by rw[vR,NP]
     rw[tW,aM he]at hS;rw[e3]at e1 e2;rw[e1]at e2;generalize mB (nth c.s i).d (nth f.d i) (nth u.arr k) (nth p.b i) (nth p.c i)=S' at hS e2;generalize mi (nth c.s i).d (nth f.d i) (nth u.arr k) (nth p.b i) (nth p.c i)=R' at hS UO e1 e2;have hF:=auc R' (by omega) (by omega) (by omega)
     rw[show R'.tur+R'.spi+R'.ovr=qf R' from rfl]at hF;have nQ:i<u.d.length:=by omega
     have ez:((((jS u.d).set (i*4) (i64 S'.v)).set (i*4+1) (i64 S'.rel)).set (i*4+1+1) (kn S'.u)).set (i*4+1+1+1) (lC S'.g)=jS (u.d.set i S'):=af6 nQ S';have hrt:(((((((wy (pad B7 u.re c.s.length)).set (i*7) (i64 R'.inf)).set (i*7+1) (i64 R'.los)).set (i*7+1+1) (i64 R'.tur)).set (i*7+1+1+1) (i64 R'.spi)).set (i*7+1+1+1+1) (i64 R'.ovr)).set (i*7+1+1+1+1+1) (i64 R'.pow)).set (i*7+1+1+1+1+1+1) (i64 R'.mX)=wy (pad B7 (u.re++[R']) c.s.length):=by
      rw[←US Gl (by omega)]
      exact au3 (by rw[NN (by omega)];exact h5) R'
     simp (disch:=omega) [-getElem?_pos,wrap64,bf (l:=f.d),ei (l:=p.b),ei (l:=p.c),l8,hS,hF,ez,hrt,avf];refine bP (i+1,vD c p u k,fw c p u k) (by simp[e1,e2]) ⟨by simp only;omega,.inr ⟨rfl,rfl,e0,i,by simp only;omega,hs⟩⟩ (by simp only;omega)
    ·rw[tW,ay he]at hS
     have e0:vE c p u k=oL (nth c.s i).d (nth f.d i) (nth u.arr k) (nth p.b i) (nth p.c i):=by
      have:mZ c p u k=oL (nth c.s i).d (nth f.d i) (nth u.arr k) (nth p.b i) (nth p.c i):=by simp only[mZ,hs,NP]
      rw[vE,this,aM he]
     rw[e0,ay he]at hq;simp (disch:=omega) [-getElem?_pos,wrap64,bf (l:=f.d),ei (l:=p.b),ei (l:=p.c),l8,hS,decide_eq_false he];exact err _ hq.symm he
   ·refine bP (i+1,u,x) (by simp) ⟨by simp only;omega,?_⟩ (by simp only;omega)
    rcases hu with⟨a,b,d⟩ | ⟨a,b,d,j,hj,hs⟩
    ·refine .inl ⟨a,b,fun j hj=>?_⟩
     rcases cF j i with g|g
     ·exact d j g
     ·rw[show j=i by simp only at hj;omega];exact h9
    ·exact .inr ⟨a,b,d,j,by simp only;omega,hs⟩
  ·obtain rfl:i=c.s.length:=by omega
   have hD:u.re=(vD c p v k).re∧u.d=(vD c p v k).d∧x=fw c p v k∧mZ c p v k=0:=by
    rcases hu with⟨rfl,rfl,d⟩ | ⟨rfl,b,d,_⟩
    ·have hn:=au6 d
     unfold vD fw mZ;rw[hn];exact⟨rfl,rfl,rfl,rfl⟩
    ·exact⟨rfl,rfl,b,d⟩
   obtain⟨d1,d2,rfl,d3⟩:=hD;rw[d1,d2];generalize hx:fw c p v k=x at *;have avh:(pad 0 v.lf c.r.n.toNat).length=c.r.n.toNat:=NN (by omega)
   have ez:(pad 0 v.lf c.r.n.toNat).set k x=pad 0 (vD c p v k).lf c.r.n.toNat:=by rw[US (by omega) (by omega),s4]
   simp (disch:=omega) [-getElem?_pos,wrap64,avh,ez];have avi:(pad 0 v.cm c.r.l.length).length=c.r.l.length:=NN avc;refine go_loop (fun y:Nat×Co=>al7 p.a.length k x (od c.r.l) c.r.l.length y.1 c.row f.row p.row [i64 0,.cb,.cb] [.cb,.cb,.cb] [i64 (f.t+1),.c5 0 4 f.d.length,.c5 1 1 f.w.length]
     [.bR 100 7 c.s.length,.bR 104 1 c.r.n.toNat,.bR 109 1 c.r.l.length] (wy (pad B7 (vD c p v k).re c.s.length)) (dD (pad 0 (vD c p v k).lf c.r.n.toNat)) (dD (pad 0 y.2.cm c.r.l.length)) (dD y.2.arr) [.cells (jS (vD c p v k).d),.cells (lI y.2.w)])
    (fun y=>y.1≤c.r.l.length∧((y.2=v∧∀j,j<y.1→AP c j≠k)∨(y.2=vL c v x k∧pH c v x k=0∧∃j,j<y.1∧mC c.r.l k=some j)))
    (fun y=>c.r.l.length-y.1) (0,v) rfl (by simp) ⟨by simp,.inl ⟨rfl,by simp⟩⟩ ?_
   rintro⟨i,u⟩ ⟨hi,hu⟩;simp only at hi hu;simp (disch:=omega) [-getElem?_pos,wrap64,ZM];refine bT (fun h5=>?_) (fun h5=>?_)
   ·have h5:i<c.r.l.length:=by omega
    have h6:i<f.w.length:=by omega
    simp (disch:=omega) [-getElem?_pos,wrap64,bf (l:=c.r.l)];refine bT (fun h9=>?_) (fun h9=>?_)
    ·have hs:mC c.r.l k=some i∧u=v∧i=v.cm.length:=by
      have e:=(yY zR.l (fun j h0 hj=>(kv.link hj).2.1 h0) h5 h9).1;rcases hu with⟨a,d⟩ | ⟨_,_,j,hj,hs⟩
      ·exact⟨au5 d h5 h9,a,e⟩
      ·have:=(yY zR.l (fun j h0 hj=>(kv.link hj).2.1 h0) (B6 hs).1 (B6 hs).2).1
       omega
     obtain⟨hs,rfl,Gl⟩:=hs;have hwi:nth u.w i=nth f.w i:=hww.2 i (by omega)
     have hfi:=jk.2.2.2 i h5;obtain⟨tt,hR⟩:=aul (nth c.r.l i).r (hr.2 i h5) (nth f.w i) (hf i) x;have bE:=(kv.link h5).1;have JW:(nth c.r.l i).t.toNat<u.arr.length:=by omega
     have eL:pH c u x k=gI (nth c.r.l i).r (nth f.w i) x:=by unfold pH;rw[hs];simp only[hwi]
     have eE:vE c p u k=gI (nth c.r.l i).r (nth f.w i) x:=by
      rw[vE,d3,hx,eL];rfl
     rw[eE]at hq;by_cases he:gI (nth c.r.l i).r (nth f.w i) x=0
     ·have ho:=Gk he
      have har:=Gn.arr (nth c.r.l i).t.toNat JW;rw[JR he]at hR;have e2:vL c u x k={ u with w:=u.w.set i (kN (nth c.r.l i).r (nth f.w i) x),cm:=u.cm++[mj (nth c.r.l i).r (nth f.w i) x],arr:=u.arr.set (nth c.r.l i).t.toNat (nth u.arr (nth c.r.l i).t.toNat+mj (nth c.r.l i).r (nth f.w i) x) }:=by
       rw[vL,hs,← hwi]
      have ez:(pad 0 u.cm c.r.l.length).set i (mj (nth c.r.l i).r (nth f.w i) x)=pad 0 (u.cm++[mj (nth c.r.l i).r (nth f.w i) x]) c.r.l.length:=US Gl (by omega)
      simp (disch:=omega) [-getElem?_pos,wrap64,bf (l:=f.w),hR,UK,avi,ez,l8];refine bP (i+1,vL c u x k) (by simp[e2]) ⟨by simp only;omega,.inr ⟨rfl,by rw[eL,he],i,by simp only;omega,hs⟩⟩ (by simp only;omega)
     ·rw[DY rfl he]at hR
      rw[ay he]at hq;simp (disch:=omega) [-getElem?_pos,wrap64,bf (l:=f.w),hR,decide_eq_false he];exact err _ hq.symm he
    ·refine bP (i+1,u) (by simp) ⟨by simp only;omega,?_⟩ (by simp only;omega)
     rcases hu with⟨a,d⟩ | ⟨a,d,j,hj,hs⟩
     ·refine .inl ⟨a,fun j hj=>?_⟩
      rcases cF j i with g|g
      ·exact d j g
      ·rw[show j=i by simp only at hj;omega];exact h9
     ·exact .inr ⟨a,d,j,by simp only;omega,hs⟩
   ·obtain rfl:i=c.r.l.length:=by omega
    have hD:u=vL c v x k∧pH c v x k=0:=by
     rcases hu with⟨rfl,d⟩ | ⟨rfl,b,_⟩
     ·have hn:=au7 d
      unfold vL pH;rw[hn];exact⟨rfl,rfl⟩
     ·exact⟨rfl,b⟩
    obtain⟨rfl,d4⟩:=hD;have eE:vE c p v k=0:=by rw[vE,d3,hx,d4];rfl
    rw[aM eE]at hq;obtain⟨a1,a2,a3⟩:=agq (c:=c) (u:=vD c p v k) (v:=v) (x:=x) (k:=k) s1 s2 s3;obtain⟨b1,b2,b3⟩:=agp (c:=c) (u:=vD c p v k) (x:=x) (k:=k);have hvS:vS c p v k=vL c (vD c p v k) x k:=by rw[vS,hx]
    refine bP (k+1) (by simp[ecv,hvS,a1,a2,a3,b1,b2,b3]) ⟨by omega,fun j hj=>?_,hq⟩ (by omega)
    rcases cF j k with g|g
    ·exact hzk j g
    ·rw[show j=k by omega,Jj];exact eE
 ·obtain rfl:k=c.r.n.toNat:=by omega
  rw[mO]at hq;have HE:=ago cv p f;have w1:((cC c p f c.r.n.toNat).re.length:Int)=c.s.length:=by omega
  rw[UR HE.1,UR avb,UR HE.2];simp (disch:=omega) [-getElem?_pos,wrap64,B3,Gf,au0,LR];rw[←hq]at fU;unfold xJ at hQ;rw[fU,aM rfl]at hQ;exact hQ
end Go.Proofs.YtmppfkgfnnebeaaGreatDoor
namespace Go.Proofs.YtmppfkgfnnebeaaGreatDoor
set_option linter.all false
open Go.Vm
structure Pa(c:Cs)(f:Fl)(p:Sp):Prop where
 c0:e8 c=0
 f0:eR c f
 p0:og c p
 all:fa (p.a++p.b++p.c) 1073741824
 t:f.t≠16777216
 v:∀k,k<c.r.n.toNat→vE c p (cC c p f k) k=0
theorem NQ{c:Cs}{f:Fl}{p:Sp}(h:oO c f p=0):Pa c f p:=by
 unfold oO at h;split at h
 ·rename_i h1;exact absurd h h1
 ·rename_i h1
  obtain⟨h2,h3⟩:=Dd (g7 h1);unfold gp at h;split at h
  ·split at h
   ·split at h
    ·cases h
    ·exact⟨h2,h3,by assumption,by assumption,by assumption,fun k hk=>sK h k (by omega) (by omega)⟩
   ·cases h
  ·cases h
theorem Pa.vc{c:Cs}{f:Fl}{p:Sp}(h:Pa c f p){k:Nat}(hk:k≤c.r.n.toNat):Vc c p (cC c p f k) k:=vcs h.c0 h.f0 h.p0 h.all fun j hj=>h.v j (by omega)
theorem Pa.fl{c:Cs}{f:Fl}{p:Sp}(h:Pa c f p):eR c (tZ c f p):=by
 have hv:=h.vc (bV _);have:=h.f0.1;have:=h.t;exact⟨by simp only[tZ];omega,hv.d,hv.w⟩
theorem UU{c:Cs}(hk:jR c.r=0){f:Fl}(h:eR c f):oe f:=fun i=>by
 rcases cF i c.r.l.length with g|g
 ·have a:=h.2.2.2 i g
  have:=a.2.1;have:=(wm a.1).len;omega
 ·have:nth f.w i=[]:=by
   simp[nth,List.getD,jT (show f.w.length≤i by have:=h.2.2.1;omega)]
   rfl
  rw[this];simp
end Go.Proofs.YtmppfkgfnnebeaaGreatDoor
namespace Go.Proofs.YtmppfkgfnnebeaaGreatDoor
set_option linter.all false
open Go.Vm
def oP(c:Cs)(cm:List Int)(j:Int):Nat→Int
 |0=>0
 |m+1=>oP c cm j m+if (nth c.r.l m).t=j then nth cm m else 0
theorem agv{c:Cs}{cm:List Int}{x:Int}{j:Int}:∀{m:Nat},m≤cm.length→oP c (cm++[x]) j m=oP c cm j m
 |0,_=>rfl
 |m+1,h=>by
  simp only[oP];rw[agv (by omega),rI (by omega)]
theorem avk{c:Cs}{cm:List Int}{x:Int}{j:Int}:oP c (cm++[x]) j (cm.length+1)=oP c cm j cm.length+if (nth c.r.l cm.length).t=j then x else 0:=by
 have e:nth (cm++[x]) cm.length=x:=by rw[iV,ay (by omega),aM rfl]
 simp only[oP];rw[agv (bV _),e]
structure Da(c:Cs)(p:Sp)(f:Fl)(v:Co)(i k:Nat):Prop where
 e:oL (nth c.s i).d (nth f.d i) (nth (cC c p f k).arr k) (nth p.b i) (nth p.c i)=0
 r:nth v.re i=mi (nth c.s i).d (nth f.d i) (nth (cC c p f k).arr k) (nth p.b i) (nth p.c i)
 d:nth v.d i=mB (nth c.s i).d (nth f.d i) (nth (cC c p f k).arr k) (nth p.b i) (nth p.c i)
structure Li(c:Cs)(p:Sp)(f:Fl)(v:Co)(m k:Nat):Prop where
 e:gI (nth c.r.l m).r (nth f.w m) (fw c p (cC c p f k) k)=0
 o:nth v.cm m=mj (nth c.r.l m).r (nth f.w m) (fw c p (cC c p f k) k)
 w:nth v.w m=kN (nth c.r.l m).r (nth f.w m) (fw c p (cC c p f k) k)
structure Hi(c:Cs)(p:Sp)(f:Fl)(v:Co)(k:Nat):Prop where
 arr:∀j,j<v.arr.length→nth v.arr j=nth p.a j+oP c v.cm j v.cm.length
 cm:∀m,m<v.cm.length→0≤nth v.cm m∧nth v.cm m≤1125899906842624
 site:∀i,i<v.re.length→∃k':Nat,k'<k∧ua c i=k'∧Da c p f v i k'
 link:∀m,m<v.cm.length→∃k':Nat,k'<k∧AP c m=k'∧Li c p f v m k'
 lf:∀j,j<k→nth v.lf j=fw c p (cC c p f j) j
theorem avl{c:Cs}{p:Sp}{f:Fl}(h:Pa c f p){k:Nat}(hk:k<c.r.n.toNat)(hh:Hi c p f (cC c p f k) k):Hi c p f (cC c p f (k+1)) (k+1):=by
 have hc:=qe h.c0;have hv:=h.vc (k:=k) (by omega)
 have ho:=JV hc p f k;have hf:=UT hc p f k;obtain⟨e0,eL⟩:=age (h.v k hk);show Hi c p f (vS c p (cC c p f k) k) (k+1);obtain⟨s1,s2,s3,s4⟩:=JU (c:=c) (p:=p) (v:=cC c p f k) (k:=k);obtain⟨a1,a2,a3⟩:=agq (c:=c) (x:=fw c p (cC c p f k) k) (k:=k) s1 s2 s3;obtain⟨b1,b2,b3⟩:=agp (c:=c) (u:=vD c p (cC c p f k) k) (x:=fw c p (cC c p f k) k) (k:=k);have avm:∀i,i<(vD c p (cC c p f k) k).re.length→∃k':Nat,k'<k+1∧ua c i=k'∧Da c p f (vD c p (cC c p f k) k) i k':=by
  unfold vD;cases hs:lJ c.s k with
  |none =>
   intro i hi;obtain⟨k',g1,g2,g3⟩:=hh.site i hi;exact⟨k',by omega,g2,g3.e,g3.r,g3.d⟩
  |some i0 =>
   obtain⟨q1,q2⟩:=y5 hs;have q3:=(yY ho.s (fun j h0 hj=>(yZ hc hj).2.1 h0) q1 q2).1;have q4:i0<(cC c p f k).d.length:=by have:=hv.d.1;omega
   have q5:=hf.d.2 i0 (by omega)
   intro i hi;simp only[m9,qh]at hi;by_cases g:i=i0
   ·subst g
    refine⟨k,by omega,q2,?_,?_,?_⟩
    ·unfold mZ at e0
     rw[hs]at e0;rw[←q5];exact e0
    ·show nth ((cC c p f k).re++[_]) i=_
     rw[iV,ay (by omega),aM q3,vR,q5]
    ·show nth ((cC c p f k).d.set i _) i=_
     rw[uR q4,aM rfl,q5]
   ·obtain⟨k',g1,g2,g3⟩:=hh.site i (by omega)
    refine⟨k',by omega,g2,g3.e,?_,?_⟩
    ·show nth ((cC c p f k).re++[_]) i=_
     rw[rI (by omega)];exact g3.r
    ·show nth ((cC c p f k).d.set i0 _) i=_
     rw[uR q4,ay g];exact g3.d
 have hlf:∀j,j<k+1→nth (vD c p (cC c p f k) k).lf j=fw c p (cC c p f j) j:=fun j hj=>by
  have:=hv.ll;rw[s4,iV];by_cases g:j<k
  ·rw[aM (by omega)];exact hh.lf j g
  ·rw[ay (by omega),aM (by omega),show j=k by omega]
 have UW:(∀j,j<(vL c (cC c p f k) (fw c p (cC c p f k) k) k).arr.length→nth (vL c (cC c p f k) (fw c p (cC c p f k) k) k).arr j=nth p.a j+oP c (vL c (cC c p f k) (fw c p (cC c p f k) k) k).cm j (vL c (cC c p f k) (fw c p (cC c p f k) k) k).cm.length) ∧
   (∀m,m<(vL c (cC c p f k) (fw c p (cC c p f k) k) k).cm.length→0≤nth (vL c (cC c p f k) (fw c p (cC c p f k) k) k).cm m∧nth (vL c (cC c p f k) (fw c p (cC c p f k) k) k).cm m≤1125899906842624) ∧
   ∀m,m<(vL c (cC c p f k) (fw c p (cC c p f k) k) k).cm.length→∃k':Nat,k'<k+1∧AP c m=k'∧Li c p f (vL c (cC c p f k) (fw c p (cC c p f k) k) k) m k':=by
  unfold pH at eL;cases hl:mC c.r.l k with
  |none =>
   rw[show vL c (cC c p f k) (fw c p (cC c p f k) k) k=cC c p f k by unfold vL;rw[hl]]
   exact⟨hh.arr,hh.cm,fun m hm=>by obtain⟨k',g1,g2,g3⟩:=hh.link m hm;exact⟨k',by omega,g2,g3⟩⟩
  |some m0 =>
   rw[hl]at eL;obtain⟨q1,q2⟩:=B6 hl;have q3:=(yY ho.l (fun j h0 hj=>((oh hc.k).link hj).2.1 h0) q1 q2).1;have q4:m0<(cC c p f k).w.length:=by have:=hv.w.1;omega
   have q5:=hf.w.2 m0 (by omega)
   have q6:=Gk eL;have q7:=((oh hc.k).link q1).1;have q8:=hv.D2;have q9:(nth c.r.l m0).t.toNat<(cC c p f k).arr.length:=by omega
   have hu:vL c (cC c p f k) (fw c p (cC c p f k) k) k={ cC c p f k with w:=(cC c p f k).w.set m0 (kN (nth c.r.l m0).r (nth (cC c p f k).w m0) (fw c p (cC c p f k) k)),cm:=(cC c p f k).cm++[mj (nth c.r.l m0).r (nth (cC c p f k).w m0) (fw c p (cC c p f k) k)],arr:=(cC c p f k).arr.set (nth c.r.l m0).t.toNat (nth (cC c p f k).arr (nth c.r.l m0).t.toNat+mj (nth c.r.l m0).r (nth (cC c p f k).w m0) (fw c p (cC c p f k) k)) }:=by
    unfold vL;rw[hl]
   rw[hu];refine⟨fun j hj=>?_,fun m hm=>?_,fun m hm=>?_⟩
   ·simp only[oR]at hj
    simp only[m9,qh];rw[uR q9,avk,← q3];by_cases g:j=(nth c.r.l m0).t.toNat
    ·rw[aM g,aM (by omega),← g,hh.arr j hj,q3]
     exact Int.add_assoc _ _ _
    ·rw[ay g,ay (by omega),J9,q3]
     exact hh.arr j hj
   ·simp only[m9,qh]at hm
    simp only;rw[iV];by_cases g:m<(cC c p f k).cm.length
    ·rw[aM g];exact hh.cm m g
    ·rw[ay g,aM (by omega)];exact q6
   ·simp only[m9,qh]at hm
    by_cases g:m=m0
    ·subst g
     refine⟨k,by omega,q2,by rw[←q5];exact eL,?_,?_⟩
     ·show nth ((cC c p f k).cm++[_]) m=_
      rw[iV,ay (by omega),aM q3,q5]
     ·show nth ((cC c p f k).w.set m _) m=_
      rw[uR q4,aM rfl,q5]
    ·obtain⟨k',g1,g2,g3⟩:=hh.link m (by omega)
     refine⟨k',by omega,g2,g3.e,?_,?_⟩
     ·show nth ((cC c p f k).cm++[_]) m=_
      rw[rI (by omega)];exact g3.o
     ·show nth ((cC c p f k).w.set m0 _) m=_
      rw[uR q4,ay g];exact g3.w
 unfold vS;refine⟨?_,?_,fun i hi=>?_,fun m hm=>?_,by rw[b2];exact hlf⟩
 ·rw[a1,a3];exact UW.1
 ·rw[a3];exact UW.2.1
 ·rw[b1]at hi
  obtain⟨k',g1,g2,g3⟩:=avm i hi;exact⟨k',g1,g2,g3.e,by rw[b1];exact g3.r,by rw[b3];exact g3.d⟩
 ·rw[a3]at hm
  obtain⟨k',g1,g2,g3⟩:=UW.2.2 m hm;exact⟨k',g1,g2,g3.e,by rw[a3];exact g3.o,by rw[a2];exact g3.w⟩
theorem UN{c:Cs}{p:Sp}{f:Fl}(h:Pa c f p):∀{k:Nat},k≤c.r.n.toNat→Hi c p f (cC c p f k) k
 |0,_=>⟨fun j hj=>by simp[cC,oP],fun m hm=>by simp[cC]at hm,fun i hi=>by simp[cC]at hi,fun m hm=>by simp[cC]at hm,fun j hj=>by omega⟩
 |k+1,hk=>avl h (by omega) (UN h (by omega))
end Go.Proofs.YtmppfkgfnnebeaaGreatDoor
namespace Go.Proofs.YtmppfkgfnnebeaaGreatDoor
set_option linter.all false
open Go.Vm
theorem agy{f:Nat→Int}:∀n,dX f (mY f n)=dX f n
 |0=>rfl
 |n+1=>by
  unfold mY;split
  ·rename_i h
   rw[agy n];simp only[dX];have h:f n=0:=by simpa using h
   rw[h,J9]
  ·rfl
theorem Um{l:List Int}:∀n,sm l n=dX (nth l) n
 |0=>rfl
 |n+1=>by simp only[sm,dX];rw[Um n]
theorem agz{f g:Nat→Int}:∀{n:Nat},(∀k,k<n→f k=g k)→dX f n=dX g n
 |0,_=>rfl
 |n+1,h=>by
  simp only[dX];rw[agz fun k hk=>h k (by omega),h n (by omega)]
theorem agA{f:Nat→Int}:∀n,dX (fun k=>f (k+1)) n=dX f (n+1)-f 0
 |0=>by simp[dX]
 |n+1=>by
  have:=agA (f:=f) n;simp only[dX]at this ⊢;omega
theorem agB{f g:Nat→Int}{x:Int}:∀n,dX (fun k=>f k+x*g k) n=dX f n+x*dX g n
 |0=>by simp[dX]
 |n+1=>by
  simp only[dX];rw[agB n,Kb];omega
theorem avp{l:List Int}{n:Nat}(h:l.length≤n):sm l n=sm l l.length:=by
 obtain⟨d,rfl⟩:∃d,n=l.length+d:=⟨n-l.length,by omega⟩
 clear h
 induction d with
 |zero=>rfl
 |succ d ih =>
  rw[show l.length+(d+1)=(l.length+d)+1 by omega]
  simp only[sm];rw[ih,wq (by omega),J9]
theorem avq{r:Rc}{p:List Int}{x:Int}(h:gI r p x=0):sm (kN r p x) (kN r p x).length=sm p p.length+r.den*(x-mj r p x):=by
 obtain⟨h1,h2,h3,h4⟩:=Gj h;have hv:=wm h1;have hn:0<r.w.length:=hv.pos;have e1:sm (kN r p x) (kN r p x).length=dX (rN r p x) r.w.length:=by
  have hl:(kN r p x).length=mY (rN r p x) r.w.length:=by simp[kN]
  have e:dX (nth (kN r p x)) (mY (rN r p x) r.w.length)=dX (rN r p x) (mY (rN r p x) r.w.length):=agz fun k hk=>agc hk;rw[Um,hl,e,agy]
 obtain⟨m,hm⟩:∃m,r.w.length=m+1:=⟨r.w.length-1,by omega⟩
 have e2:dX (rN r p x) r.w.length=dX (fun k=>rq r p x (k+1)) r.w.length+rq r p x 0 % r.den:=by
  rw[hm];have key:∀j,dX (rN r p x) (j+1)=dX (fun k=>rq r p x (k+1)) (j+1)+rq r p x 0 % r.den:=by
   intro j;induction j with
   |zero=>simp[dX,rN]
   |succ j ih =>
    rw[dX,ih];simp only[dX,rN];rw[ay (by omega)]
    omega
  exact key m
 have e3:rq r p x r.w.length=0:=by
  have:=h2.1;simp only[rq];rw[wq (by omega),wq (bV _)]
  simp
 have e4:dX (rq r p x) r.w.length=sm p p.length+x*r.den:=by
  show dX (fun k=>nth p k+x*nth r.w k) r.w.length=_;rw[agB,← Um,← Um,avp h2.1,hv.sum]
 have e5:rq r p x 0=r.den*mj r p x+rq r p x 0 % r.den:=(Int.mul_ediv_add_emod _ _).symm;have e6:r.den*(x-mj r p x)=x*r.den-r.den*mj r p x:=by rw[Int.mul_sub,Kc r.den x]
 rw[e1,e2,agA,dX,e3,e4,e6];omega
def hB(c:Cs)(f:Fl)(M:Int):Prop:=∀i,i<c.r.l.length→sm (nth f.w i) (nth f.w i).length≤(nth c.r.l i).r.den*(1073741824*M)
theorem avr{r:Rc}{p:List Int}(h:iB r p):0≤sm p p.length:=(DX (i:=p.length) h.2.2).1
theorem agC{c:Cs}{f:Fl}{p:Sp}(h:Pa c f p){M:Int}(hM:0≤M)(hb:hB c f M) :
  hB c (tZ c f p) (M+1)∧∀i,i<c.r.l.length→0≤nth (AN c f p).cm i∧nth (AN c f p).cm i≤1073741824*(M+1):=by
 have hc:=qe h.c0;have e2:=(ago hc p f).2
 suffices g:∀i,i<c.r.l.length→sm (nth (tZ c f p).w i) (nth (tZ c f p).w i).length≤(nth c.r.l i).r.den*(1073741824*(M+1))∧0≤nth (AN c f p).cm i∧nth (AN c f p).cm i≤1073741824*(M+1) from
  ⟨fun i hi=>(g i hi).1,fun i hi=>(g i hi).2⟩
 intro i hi;obtain⟨k,_,_,hl⟩:=(UN h (bV _)).link i (by omega)
 have hw:nth (tZ c f p).w i=_:=hl.w;have ho:nth (AN c f p).cm i=_:=hl.o;have hr:=avq hl.e;have hx:=(Gj hl.e).2.2.1;have h0:=(Gk hl.e).1;have hd:=(wm (Gj hl.e).1).den;have hs:=avr (agd hl.e);have P8:=hb i hi;rw[hw,ho];generalize mj (nth c.r.l i).r (nth f.w i) (fw c p (cC c p f k) k)=o at *;generalize fw c p (cC c p f k) k=x at *;generalize kN (nth c.r.l i).r (nth f.w i) x=q at *;generalize (nth c.r.l i).r.den=D at *;generalize sm (nth f.w i) (nth f.w i).length=s at *;have a1:D*(1073741824*(M+1))=D*(1073741824*M)+D*1073741824:=by rw[←Kb];congr 1;omega
 have a2:D*(x-o)=D*x-D*o:=Int.mul_sub _ _ _;have a3:D*x≤D*1073741824:=Kd hx.2 (by omega)
 have a4:0≤D*o:=Ea (by omega) h0
 refine⟨by omega,h0,?_⟩
 exact Int.le_of_mul_le_mul_left (a:=D) (by omega) (by omega)
theorem NT{c:Cs}{f:Fl}{M N:Int}(hk:jR c.r=0)(h:hB c f M)(hn:M≤N):hB c f N:=fun i hi=>by
 have hd:=(wm ((oh hk).link hi).2.2).den;exact AU (h i hi) (Kd (by omega) (by omega))
theorem avs{c:Cs}{s:List Ds}:hB c (oi c s) 0:=fun i hi=>by
 have e:nth (oi c s).w i=[]:=by simp[oi,nth,hi]
 rw[e];simp[sm]
end Go.Proofs.YtmppfkgfnnebeaaGreatDoor
namespace Go.Proofs.YtmppfkgfnnebeaaGreatDoor
set_option linter.all false
open Go.Vm
attribute [local simp] lZ l7 lX lY
theorem avt{l:List Int}{k:Nat}(hd:c9 l k){c:Cs}(hc:Cm c){s:List Ds}(hs:oN c s):∃f k',aZ F 37 [.bm 0 0,cs c,xH s] [dk l k]=some (fl f,[dk l k'])∧c9 l k'∧eR c f∧hB c f 10:=by
 suffices h:∀Q:V→List aS→Prop,(∀f k',c9 l k'→eR c f→hB c f 10→Q (fl f) [dk l k'])→gA (aZ F) 37 [.bm 0 0,cs c,xH s] [dk l k] Q by
  obtain⟨_,_,h,f,k',rfl,rfl,h1⟩:=h (fun v G=>∃f k',v=fl f∧G=[dk l k']∧c9 l k'∧eR c f∧hB c f 10) fun f k' a b d=>⟨f,k',rfl,rfl,a,b,d⟩;exact⟨f,k',h,h1⟩
 intro Q hQ;refine gM rfl rfl ?_;have cv:=qe hc.mc;have kv:=oh cv.k;have D0:=hc.small;have hn6:=hc.n;obtain⟨G1,ez⟩:=auC c D0 s (ND hc.mc hs);have h0:AJ c s=.tuple [fl (oi c s),i64 0]:=by unfold AJ;rw[show yX c s=0 by unfold yX;rw[ay (by have:=hc.mc;omega),aM hs]];rfl
 rw[h0]at ez;obtain⟨m,k1,n1,gR,hm⟩:=fk hd 6 (by omega)
 have Ul:=(UG hc.mc).2 hs;have EU:=avs (c:=c) (s:=s);generalize oi c s=f0 at ez Ul EU;simp (disch:=omega) [wrap64,ZW,ez,n1];refine go_loop (fun y:Fl×Int×Nat=>aml (.bm 0 0) y.2.1 c.row [i64 0,.cb,.cb] y.1.row [dk l y.2.2])
  (fun y=>eR c y.1∧(0≤y.2.1∧y.2.1≤10)∧c9 l y.2.2∧hB c y.1 (10-y.2.1)) (fun y=>y.2.1.toNat) (f0,m,k1) rfl (by simp) ⟨Ul,by simp only;omega,gR,NT cv.k EU (by simp only;omega)⟩ ?_
 rintro⟨f,x,k⟩ ⟨h1,h2,hd,hh⟩;simp only at h1 h2 hd hh;simp (disch:=omega) [wrap64,ZV];refine bT (fun h3=>?_) (fun h3=>?_)
 ·obtain⟨p,k2,n2,eZ,hp,ha,hb,xg⟩:=UJ hd (c:=c) (by have:=kv.n;omega) (by have:=cv.s;omega)
  have Nw:=cv.s;have my:p.a.length≤1000∧p.b.length≤1000∧p.c.length≤1000:=by have:=hp;unfold og at this;omega
  obtain⟨G2,hS⟩:=au8 D0 (UU cv.k h1) my;by_cases he:oO c f p=0
  ·rw[xJ,aM he]at hS
   have xk:=(NQ he).fl;have rj:=NT cv.k (agC (NQ he) (by omega) hh).1 (show 10-x+1≤10-(x-1) by omega)
   generalize tZ c f p=f2 at hS xk rj;generalize AN c f p=pp at hS;simp (disch:=omega) [wrap64,n2,hS];exact bP (f2,x-1,k2) (by simp) ⟨xk,by simp only;omega,eZ,rj⟩ (by simp only;omega)
  ·rw[xJ,ay he]at hS
   simp (disch:=omega) [wrap64,n2,hS,decide_eq_false he];exact bP (f,x-1,k2) (by simp) ⟨h1,by simp only;omega,eZ,NT cv.k hh (by simp only;omega)⟩ (by simp only;omega)
 ·exact hQ f k hd h1 (NT cv.k hh (by omega))
theorem avv{l:List Int}{k:Nat}(hd:c9 l k):∃c f k',aZ F 9 [.bm 0 0] [dk l k]=some (.tuple [cs c,fl f],[dk l k'])∧c9 l k'∧Cm c∧eR c f∧hB c f 10:=by
 suffices h:∀Q:V→List aS→Prop,(∀c f k',c9 l k'→Cm c→eR c f→hB c f 10→Q (.tuple [cs c,fl f]) [dk l k'])→gA (aZ F) 9 [.bm 0 0] [dk l k] Q by
  obtain⟨_,_,h,c,f,k',rfl,rfl,h1⟩:=h (fun v G=>∃c f k',v=.tuple [cs c,fl f]∧G=[dk l k']∧c9 l k'∧Cm c∧eR c f∧hB c f 10) fun c f k' a b d e=>⟨c,f,k',rfl,rfl,a,b,d,e⟩;exact⟨c,f,k',h,h1⟩
 intro Q hQ;refine gM rfl rfl ?_;obtain⟨c,s,k1,n1,gR,hc,hs⟩:=auG hd;obtain⟨f,k2,n2,eZ,hf,hb⟩:=avt gR hc hs;simp[wrap64,ZE,n1,n2];exact hQ c f k2 eZ hc hf hb
instance:Inhabited Sp:=⟨⟨[],[],[]⟩⟩
abbrev oj(l:List Sp):V:=.slice none 3 (l.map Sp.row)
noncomputable def fu(c:Cs)(f:Fl)(l:List Sp):Nat→Fl
 |0=>f
 |k+1=>tZ c (fu c f l k) (nth l k)
noncomputable def NU(c:Cs)(f:Fl)(l:List Sp)(k:Nat):Ps:=AN c (fu c f l k) (nth l k)
noncomputable def wz(c:Cs)(f:Fl)(l:List Sp)(k:Nat):List Ps:=(List.range k).map (NU c f l)
theorem agD{c:Cs}{f:Fl}{l:List Sp}{k:Nat}:wz c f l (k+1)=wz c f l k++[NU c f l k]:=by simp[wz,AX]
@[simp] theorem aCY{c:Cs}{f:Fl}{l:List Sp}{k:Nat}:(wz c f l k).length=k:=by simp[wz]
noncomputable def jc(c:Cs)(f:Fl)(l:List Sp):Int:=if kO c f≠0 then kO c f else if 400<l.length then 10 else dH (fun k=>gp c (fu c f l k) (nth l k)) l.length 0
abbrev crX(t:Option Nat)(e:Int):V:=.tuple [.agg [i64 0,.slice t 4 [],.slice t 1 []],.slice t 3 [],i64 e]
noncomputable def mD(t:Option Nat)(c:Cs)(f:Fl)(l:List Sp):V:=if jc c f l=0 then .tuple [fl (fu c f l l.length),.slice t 3 ((wz c f l l.length).map Ps.row),i64 0] else crX t (jc c f l)
theorem UX{c:Cs}{f:Fl}{p:Sp}(hc:e8 c=0)(hf:eR c f):oO c f p=gp c f p:=by
 unfold oO kO;rw[ay (by omega:¬ (e8 c≠0)),aM hf]
 rfl
theorem Gq{c:Cs}{f:Fl}{l:List Sp}(hc:e8 c=0)(hf:eR c f):∀k,(∀j,j<k→gp c (fu c f l j) (nth l j)=0)→eR c (fu c f l k)
 |0,_=>hf
 |k+1,h=>by
  have ih:=Gq hc hf k fun j hj=>h j (by omega)
  exact(NQ (by rw[UX hc ih];exact h k (by omega))).fl
set_option maxRecDepth 100000 in
set_option maxHeartbeats 1000000 in
theorem agF{c:Cs}(hr:lh c.r){f:Fl}(hf:oe f)(l:List Sp)(hl:l.length≤1000):∃G',aZ F 85 [cs c,fl f,oj l] []=some (mD (some 0) c f l,G'):=by
 suffices h:∀Q:V→Prop,Q (mD (some 0) c f l)→gA (aZ F) 85 [cs c,fl f,oj l] [] fun v _=>Q v by
  obtain⟨_,G',h,rfl⟩:=h (fun v=>v=mD (some 0) c f l) rfl;exact⟨G',h⟩
 intro Q hQ;refine gM rfl rfl ?_;have hd:=afP c hr f hf;by_cases hz:kO c f=0
 case neg =>
  rw[mD,ay (by unfold jc;rw[aM hz];exact hz),show jc c f l=kO c f by unfold jc;rw[aM hz]]at hQ
  simp (disch:=omega) [-getElem?_pos,wrap64,Mc,hd,hz];exact hQ
 obtain⟨z1,z2⟩:=Dd hz;have cv:=qe z1;have kv:=oh cv.k;by_cases h4:400<l.length
 case pos =>
  have e:jc c f l=10:=by unfold jc;rw[ay (by omega),aM h4]
  have UY:(400:Int)<l.length:=by omega
  rw[mD,ay (by omega),e]at hQ
  simp (disch:=omega) [-getElem?_pos,wrap64,Mc,hd,hz,UY];exact hQ
 have UY:¬ (400:Int)<l.length:=by omega
 have ez:=afX f.d (ND z1 z2.2.1);have hwv:=afY f.w (UQ cv.k z2.2.2);have e:jc c f l=dH (fun k=>gp c (fu c f l k) (nth l k)) l.length 0:=by unfold jc;rw[ay (by omega),ay h4]
 simp (disch:=omega) [-getElem?_pos,wrap64,Mc,hd,hz,UY,ez,hwv,B3,Gf];refine go_loop (fun k:Nat=>amZ (.slice (some 1058) 3 ((wz c f l k).map Ps.row)) (oj l) l.length k c.row (fu c f l k).row [z0,.cb,.cb] k [.cells [],.cells []])
  (fun k=>k≤l.length∧dH (fun k=>gp c (fu c f l k) (nth l k)) (l.length-k) k=jc c f l∧∀j,j<k→gp c (fu c f l j) (nth l j)=0) (fun k=>l.length-k) 0 rfl (by simp (disch:=omega) [B3,Gf,fu,wz]) ⟨by omega,e.symm,by omega⟩ ?_
 rintro k ⟨hk,hE,hj⟩;have Ut:=Gq z1 z2 k hj;simp (disch:=omega) [-getElem?_pos,wrap64,aaw];refine bT (fun h5=>?_) (fun h5=>?_)
 ·have h5:k<l.length:=by omega
  rw[kZ h5]at hE;obtain⟨G1,hP⟩:=agh hr z1 Ut (nth l k);by_cases h6:gp c (fu c f l k) (nth l k)=0
  ·rw[B5,aM h6]at hP
   simp only[aM h6]at hE;simp (disch:=omega) [-getElem?_pos,wrap64,bf (l:=l),hP];refine bP (k+1) (by simp[agD,fu,NU]) ⟨by omega,hE,fun j yr=>?_⟩ (by omega)
   by_cases g:j=k
   ·rw[g];exact h6
   ·exact hj j (by omega)
  ·rw[B5,ay h6]at hP
   simp only[ay h6]at hE;rw[mD,ay (by omega),← hE]at hQ
   simp (disch:=omega) [-getElem?_pos,wrap64,bf (l:=l),hP,h6];exact hQ
 ·obtain rfl:k=l.length:=by omega
  rw[sb]at hE;have hE:0=jc c f l:=hE;rw[mD,aM hE.symm]at hQ;exact hQ
theorem agG{α:Type}[Inhabited α]{l:List α}{k i:Nat}:nth (l.drop k) i=nth l (k+i):=by
 simp[nth,List.getD]
theorem agH{c:Cs}{f:Fl}{l:List Sp}{k:Nat}:∀{i:Nat},i≤k→fu c f (l.take k) i=fu c f l i
 |0,_=>rfl
 |i+1,h=>by simp only[fu];rw[agH (by omega),BZ (by omega)]
theorem agI{c:Cs}{f:Fl}{l:List Sp}{k:Nat}:∀i:Nat,fu c (fu c f l k) (l.drop k) i=fu c f l (k+i)
 |0=>rfl
 |i+1=>by
  show tZ c (fu c (fu c f l k) (l.drop k) i) (nth (l.drop k) i)=tZ c (fu c f l (k+i)) (nth l (k+i));rw[agI i,agG]
structure Ra(c:Cs)(f:Fl)(l:List Sp):Prop where
 c0:e8 c=0
 f0:eR c f
 len:l.length≤400
 v:∀k,k<l.length→gp c (fu c f l k) (nth l k)=0
theorem avx{c:Cs}{f:Fl}{l:List Sp}(h:jc c f l=0):Ra c f l:=by
 unfold jc at h;split at h
 ·rename_i h1;exact absurd h h1
 ·rename_i h1
  obtain⟨a,b⟩:=Dd (g7 h1);split at h
  ·cases h
  ·exact⟨a,b,by omega,fun k hk=>sK h k (by omega) (by omega)⟩
theorem Ra.e{c:Cs}{f:Fl}{l:List Sp}(h:Ra c f l):jc c f l=0:=by
 have hr:kO c f=0:=by unfold kO;rw[ay (by have:=h.c0;omega),aM h.f0]
 have:=h.len;unfold jc;rw[ay (by omega),ay (by omega)]
 exact sL fun j _ hj=>h.v j (by omega)
theorem Ra.at_{c:Cs}{f:Fl}{l:List Sp}(h:Ra c f l){k:Nat}(hk:k≤l.length):eR c (fu c f l k):=Gq h.c0 h.f0 k fun j hj=>h.v j (by omega)
theorem Ra.pa{c:Cs}{f:Fl}{l:List Sp}(h:Ra c f l){k:Nat}(hk:k<l.length):Pa c (fu c f l k) (nth l k):=NQ (by rw[UX h.c0 (h.at_ (by omega))];exact h.v k hk)
theorem Ra.take{c:Cs}{f:Fl}{l:List Sp}(h:Ra c f l){k:Nat}(hk:k≤l.length):Ra c f (l.take k) :=
 ⟨h.c0,h.f0,by have:=h.len;simp;omega,fun j hj=>by
  simp at hj;rw[agH (by omega),BZ (by omega)]
  exact h.v j (by omega)⟩
theorem Ra.drop{c:Cs}{f:Fl}{l:List Sp}(h:Ra c f l){k:Nat}(hk:k≤l.length):Ra c (fu c f l k) (l.drop k) :=
 ⟨h.c0,h.at_ hk,by have:=h.len;simp;omega,fun j hj=>by
  simp at hj;rw[agI,agG];exact h.v (k+j) (by omega)⟩
theorem Ra.hB{c:Cs}{f:Fl}{l:List Sp}(h:Ra c f l){M:Int}(hM:0≤M)(hb:hB c f M):∀{k:Nat},k≤l.length→hB c (fu c f l k) (M+k)
 |0,_=>by simpa [fu] using hb
 |k+1,hk=>by
  have:=(agC (h.pa (k:=k) (by omega)) (by omega) (h.hB hM hb (k:=k) (by omega))).1
  rw[show M+((k+1:Nat):Int)=M+k+1 by omega]
  exact this
def Sw(c:Cs)(p:Sp):Prop:=og c p∧fa p.a 30∧fa p.b 30∧fa p.c 30
abbrev UZ(l:List Sp):V:=.slice (some 0) 3 (l.map Sp.row)
theorem avz{l:List Int}{k:Nat}(hd:c9 l k){c:Cs}(hn:1≤c.r.n∧c.r.n≤40)(hs:c.s.length≤10){n:Nat}(hm:n≤1000) :
  ∃q k',aZ F 12 [.bm 0 0,cs c,i64 n] [dk l k]=some (UZ q,[dk l k'])∧c9 l k'∧q.length=n∧∀i,i<n→Sw c (nth q i):=by
 suffices h:∀Q:V→List aS→Prop,(∀q k',c9 l k'→q.length=n→(∀i,i<n→Sw c (nth q i))→Q (UZ q) [dk l k'])→gA (aZ F) 12 [.bm 0 0,cs c,i64 n] [dk l k] Q by
  obtain⟨_,_,h,q,k',rfl,rfl,h1⟩:=h (fun v G=>∃q k',v=UZ q∧G=[dk l k']∧c9 l k'∧q.length=n∧∀i,i<n→Sw c (nth q i)) fun q k' a b d=>⟨q,k',rfl,rfl,a,b,d⟩;exact⟨q,k',h,h1⟩
 intro Q hQ;refine gM rfl rfl ?_;simp (disch:=omega) [wrap64,ZI];refine go_loop (fun y:List Sp×Nat=>alX (.bm 0 0) (.slice (some 1016) 3 (y.1.map Sp.row)) n y.1.length c.row y.1.length [dk l y.2]) (fun y=>y.1.length≤n∧c9 l y.2∧∀i,i<y.1.length→Sw c (nth y.1 i)) (fun y=>n-y.1.length) ([],k) rfl (by simp) ⟨by simp,hd,fun i hi=>absurd hi (by simp)⟩ ?_
 rintro⟨q,k⟩ ⟨h1,hd,hq⟩;simp only at h1 hd hq;simp (disch:=omega) [wrap64,ZH];refine bT (fun h5=>?_) (fun h5=>?_)
 ·obtain⟨p,k2,n2,eZ,hp⟩:=UJ hd (c:=c) hn hs
  simp (disch:=omega) [wrap64,n2];refine bP (q++[p],k2) (by simp) ⟨by simp;omega,eZ,fun i hi=>?_⟩ (by simp;omega)
  simp only[m9,qh]at hi;rw[iV];by_cases g:i<q.length
  ·rw[aM g];exact hq i g
  ·rw[ay g,aM (by omega)];exact hp
 ·obtain e:q.length=n:=by omega
  exact hQ q k hd e (fun i hi=>hq i (by omega))
end Go.Proofs.YtmppfkgfnnebeaaGreatDoor

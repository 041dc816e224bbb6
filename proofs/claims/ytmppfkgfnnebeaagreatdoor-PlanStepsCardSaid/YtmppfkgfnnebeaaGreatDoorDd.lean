/- Parts of the proof. -/
import Derived.Test.YtmppfkgfnnebeaaGreatDoorDc
import Derived.Test.YtmppfkgfnnebeaaGreatDoorDb
namespace Go.Proofs.YtmppfkgfnnebeaaGreatDoor
set_option linter.all false
open Go.Vm
attribute [local simp] lZ l7 lX lY
theorem asI{c:List Pt}{i:Nat}:p7 c i (nth c (i-1)).x=(nth c (i-1)).y:=by simp[p7]
theorem asJ{c:List Pt}(h:Cv c){k:Nat}(hk:k<c.length){x:Int}(hx:x≤(nth c k).x):iw c x≤(nth c k).y:=by
 rcases SQ h x with h1 | ⟨i,a,b,d,e⟩ | h1
 ·rw[DB h h1];exact h.le (by omega) hk
 ·rw[yL h a b d e]
  have h2:=I8 h a b d e;rcases cF k i with h3|h3
  ·rcases cF k (i-1) with h4|h4
   ·have:=h.lt h4 (by omega);omega
   ·obtain rfl:k=i-1:=by omega
    have:x=(nth c (i-1)).x:=by omega
    rw[this,asI];omega
  ·have:=h.le h3 hk
   unfold p7;omega
 ·have hp:=h.pos
  rcases cF k (c.length-1) with h4|h4
  ·have:=h.lt h4 (by omega);omega
  ·obtain rfl:k=c.length-1:=by omega
   rw[MK h h1];omega
theorem TI{c:List Pt}(h:Cv c){x x':Int}(hx:x≤x'):iw c x≤iw c x':=by
 rcases SQ h x' with h1 | ⟨i,a,b,d,e⟩ | h1
 ·rw[DB h h1,DB h (by omega)];omega
 ·by_cases h2:(nth c (i-1)).x≤x
  ·rw[yL h a b d e,yL h a b h2 (by omega)]
   have h3:=h.up i a b;have h4:=h.mono i a b;unfold p7;have:=Int.tdiv_le_tdiv (a:=((nth c i).y-(nth c (i-1)).y)*(x-(nth c (i-1)).x)) (b:=((nth c i).y-(nth c (i-1)).y)*(x'-(nth c (i-1)).x)) (c:=(nth c i).x-(nth c (i-1)).x) (by omega)
    (Kd (by omega) (by omega))
   omega
  ·have h5:=asJ h (k:=i-1) (by omega) (x:=x) (by omega)
   have h6:=I8 h a b d e;rw[yL h a b d e];unfold p7;omega
 ·rw[MK h h1]
  exact(FG h x).2
theorem asK{c:List Pt}(h:c=[]∨gB c=0){o o':Int}(ho:o≤o'):tT c o≤tT c o':=by
 rcases h with rfl|h
 ·simp[tT]
 ·unfold tT
  rw[ay (by have:=uK h;omega),ay (by have:=uK h;omega)]
  exact TI (mQ h) ho
theorem TJ{g:Gt}(h:Gv g)(lv:Int):sY g.r lv=[]∨gB (sY g.r lv)=0:=aeS (P:=fun c=>gB c=0) h.cur
theorem asL{g:Gt}(h:Gv g){lv o o':Int}(ho:o≤o'):jn g o lv≤jn g o' lv:=asK (TJ h lv) ho
theorem uM{g:Gt}(h:Gv g)(o lv:Int):0≤jn g o lv∧jn g o lv≤1073741824:=by
 unfold jn tT;have h1:=aeS (P:=fun c=>gB c=0∧(nth c (c.length-1)).y≤1073741824) (l:=g.r) (lv:=lv) (fun i hi=>⟨h.cur i hi,h.top i hi⟩);rcases h1 with h1 | ⟨h1,h2⟩
 ·rw[h1];simp
 ·rw[ay (by have:=uK h1;omega)]
  have h3:=FG (mQ h1) o;have h4:=(mQ h1).y0 0 (uK h1);omega
theorem Jv{g:List Gt}{s:List Gs}{lv:Int}(h:aE g s lv=0):g.length≤8∧g.length=s.length∧Az g s∧(∀i,i<g.length→Gv (nth g i))∧0≤lv∧lv≤16777216:=by
 unfold aE at h;split at h
 ·cases h
 split at h
 ·cases h
 split at h
 ·cases h
 split at h
 ·rename_i h1;exact absurd h h1
 split at h
 ·cases h
 rename_i h1 h2 h3 h4 h5;have h4:=g7 h4;exact⟨by omega,by omega,g7 h3,fun i hi=>aeR (sK h4 i (by omega) (by omega)),by omega⟩
def mf(f:Gt→Gs→Int)(g:List Gt)(s:List Gs)(i:Nat):Int:=(List.zipWith f (g.take i) (s.take i)).sum
theorem Jw{f:Gt→Gs→Int}{g:List Gt}{s:List Gs}:mf f g s 0=0:=by simp[mf]
theorem DQ{f:Gt→Gs→Int}{g:List Gt}{s:List Gs}{i:Nat}(h1:i<g.length)(h2:i<s.length):mf f g s (i+1)=mf f g s i+f (nth g i) (nth s i):=by
 unfold mf;rw[Av h1 h2,Ks];simp
theorem TK{f:Gt→Gs→Int}{g:List Gt}{s:List Gs}(hl:g.length=s.length)(h:∀i,i<g.length→0≤f (nth g i) (nth s i)∧f (nth g i) (nth s i)≤1073741824):∀i,i≤g.length→0≤mf f g s i∧mf f g s i≤1073741824*i:=by
 intro i;induction i with
 |zero=>intro _;rw[Jw];omega
 |succ i ih =>
  intro hi;rw[DQ (by omega) (by omega)]
  have:=ih (by omega)
  have:=h i (by omega)
  omega
def gC(lv:Int)(g:Gt)(s:Gs):Int:=jn g (ff g s).lo lv
def M7(lv:Int)(g:Gt)(s:Gs):Int:=jn g (ff g s).hi lv
noncomputable def FX(g:List Gt)(s:List Gs)(lv:Int):V:=if aE g s lv=0 then .tuple [.agg [i64 (mf (gC lv) g s g.length),i64 (mf (M7 lv) g s g.length)],i64 0] else .tuple [.agg [i64 0,i64 0],i64 (aE g s lv)]
theorem TL(g:List Gt)(s:List Gs)(lv:Int)(G:List aS):aZ F 237 [kr g,lC s,i64 lv] G=some (FX g s lv,G) :=
 bM rfl rfl (by
  generalize hW:FX g s lv=W;unfold FX at hW;by_cases he:aE g s lv=0
  ·rw[aM he]at hW
   obtain⟨h1,h2,h3,h4,h5⟩:=Jv he;have r1:=TK (f:=gC lv) h2 (fun i hi=>uM (h4 i hi) _ _);have r2:=TK (f:=M7 lv) h2 (fun i hi=>uM (h4 i hi) _ _);simp (disch:=omega) [-getElem?_pos,wrap64,SA,aeV,he];refine go_loop (fun i:Nat=>ap9 (lC s) lv (kr g) g.length i [i64 0,i64 0] [i64 (mf (gC lv) g s i),i64 (mf (M7 lv) g s i)] G) (fun i=>i≤g.length) (fun i=>g.length-i) 0 rfl (by simp[Jw]) (by omega) ?_
   rintro i hi;simp (disch:=omega) [-getElem?_pos,wrap64,ac4];refine bT (fun h6=>?_) (fun h6=>?_)
   ·have h6:i<g.length:=by omega
    have h7:i<s.length:=by omega
    obtain⟨t,ht⟩:=aeT (h4 i h6) lv [];have hr:=aeU (h4 i h6) (h3 i h6);have hf:=TG (TJ (h4 i h6) lv);have b1:=r1 i (by omega)
    have b2:=r2 i (by omega)
    have b3:=uM (h4 i h6) (ff (nth g i) (nth s i)).lo lv;have b4:=uM (h4 i h6) (ff (nth g i) (nth s i)).hi lv;unfold jn at b3 b4;simp (disch:=omega) [-getElem?_pos,wrap64,bf (l:=g),bf (l:=s),ht,hr,hf];exact bP (i+1) (by simp[DQ h6 h7,gC,M7,jn]) (by omega) (by omega)
   ·obtain rfl:i=g.length:=by omega
    exact hW
  ·rw[ay he]at hW
   simp (disch:=omega) [-getElem?_pos,wrap64,SA,aeV,he];exact hW)
def mg(f:Bd→Int)(g:List Gt)(s:List Gs):List Int:=List.zipWith (fun g s=>f (ff g s)) g s
theorem B2{f:Bd→Int}{g:List Gt}{s:List Gs}(h:g.length=s.length):(mg f g s).length=g.length:=by simp[mg,h]
theorem Jx{f:Bd→Int}{g:List Gt}{s:List Gs}{i:Nat}(h1:i<g.length)(h2:i<s.length):nth (mg f g s) i=f (ff (nth g i) (nth s i)):=FQ h1 h2
theorem asM{g:List Gt}{s:List Gs}(hl:g.length=s.length)(hn:g.length≤8)(hs:Az g s)(hv:∀i,i<g.length→Gv (nth g i))(G:List aS) :
  aZ F 147 [kr g,lC s] G=some (.tuple [own (mg Bd.lo g s),own (mg Bd.hi g s)],G) :=
 bM rfl rfl (by
  simp (disch:=omega) [-getElem?_pos,wrap64,abA];refine go_loop (fun i:Nat=>aoL (lC s) (.slice (some 1028) 1 ((mg Bd.lo (g.take i) (s.take i)).map fun n=>[i64 n])) (.slice (some 1033) 1 ((mg Bd.hi (g.take i) (s.take i)).map fun n=>[i64 n])) (kr g) g.length i i i G) (fun i=>i≤g.length) (fun i=>g.length-i) 0 rfl (by simp[mg]) (by omega) ?_
  rintro i hi;have e1:(mg Bd.lo (g.take i) (s.take i)).length=i:=by rw[B2 (by simp;omega)];simp;omega
  have e2:(mg Bd.hi (g.take i) (s.take i)).length=i:=by rw[B2 (by simp;omega)];simp;omega
  simp (disch:=omega) [-getElem?_pos,wrap64,abz,e1,e2];refine bT (fun h6=>?_) (fun h6=>?_)
  ·have h6:i<g.length:=by omega
   have h7:i<s.length:=by omega
   have hr:=asH (hv i h6) (hs i h6);simp (disch:=omega) [-getElem?_pos,wrap64,bf (l:=g),bf (l:=s),hr,e1,e2];refine bP (i+1) ?_ (by omega) (by omega)
   unfold mg;rw[Av h6 h7,Av h6 h7];simp
  ·obtain rfl:i=g.length:=by omega
   have t1:g.take g.length=g:=na;have t2:s.take g.length=s:=by rw[hl];exact na
   rw[t1,t2]at *;simp (disch:=omega) [-getElem?_pos,wrap64,e1,e2])
def qM(g:List Gt)(l:List Int)(lv:Int)(i:Nat):Int:=(List.zipWith (fun g o=>jn g o lv) (g.take i) (l.take i)).sum
theorem M8{g:List Gt}{l:List Int}{lv:Int}:qM g l lv 0=0:=by simp[qM]
theorem Jy{g:List Gt}{l:List Int}{lv:Int}{i:Nat}(h1:i<g.length)(h2:i<l.length):qM g l lv (i+1)=qM g l lv i+jn (nth g i) (nth l i) lv:=by
 unfold qM;rw[Av h1 h2,Ks];simp
theorem asN{g:List Gt}{l:List Int}{lv:Int}(hl:g.length=l.length)(hv:∀i,i<g.length→Gv (nth g i)):∀i,i≤g.length→0≤qM g l lv i∧qM g l lv i≤1073741824*i:=by
 intro i;induction i with
 |zero=>intro _;rw[M8];omega
 |succ i ih =>
  intro hi;rw[Jy (by omega) (by omega)]
  have:=ih (by omega)
  have:=uM (hv i (by omega)) (nth l i) lv
  omega
theorem Jz{g:List Gt}{l:List Int}(hl:g.length=l.length)(hn:g.length≤8)(hv:∀i,i<g.length→Gv (nth g i))(lv:Int)(G:List aS) :
  aZ F 148 [kr g,ints l,i64 lv] G=some (i64 (qM g l lv g.length),G) :=
 bM rfl rfl (by
  generalize hW:qM g l lv g.length=W;simp (disch:=omega) [-getElem?_pos,wrap64,abC];refine go_loop (fun i:Nat=>aoP (ints l) lv (qM g l lv i) (kr g) g.length i G) (fun i=>i≤g.length) (fun i=>g.length-i) 0 rfl (by simp[M8]) (by omega) ?_
  rintro i hi;simp (disch:=omega) [-getElem?_pos,wrap64,abB];refine bT (fun h6=>?_) (fun h6=>?_)
  ·have h6:i<g.length:=by omega
   have h7:i<l.length:=by omega
   have hr:=asG (hv i h6);have b1:=asN (lv:=lv) hl hv i (by omega)
   have b2:=uM (hv i h6) (nth l i) lv;simp (disch:=omega) [-getElem?_pos,wrap64,bf (l:=g),ei h7,hr];exact bP (i+1) (by simp[Jy h6 h7]) (by omega) (by omega)
  ·obtain rfl:i=g.length:=by omega
   exact hW)
theorem asO{f:Bd→Int}{g:List Gt}{s:List Gs}{lv:Int}(hl:g.length=s.length):∀i,i≤g.length→qM g (mg f g s) lv i=mf (fun g s=>jn g (f (ff g s)) lv) g s i:=by
 intro i;induction i with
 |zero=>intro _;rw[M8,Jw]
 |succ i ih =>
  intro hi;rw[Jy (by omega) (by rw[B2 hl];omega),DQ (by omega) (by omega),ih (by omega),Jx (by omega) (by omega)]
theorem asP{n:Int}(h1:0≤n)(h2:n≤18446744073709551615):IntKind.u64.wrap n=n:=by
 simp[IntKind.wrap,IntKind.bits,IntKind.signed];omega
def aeW(f:FuncId)(cap:List V)(G:List aS)(N:Int)(p:Int→Bool):Prop:=∀m,0≤m→m<N→aZ F f (i64 m::cap) G=some (.bool (p m),G)
theorem asQ{f:FuncId}{cap:List V}{G:List aS}{N:Int}{p:Int→Bool}(hN:0≤N)(hN2:N≤1000000)(h:aeW f cap G N p) :
  ∃r,aZ F 250 [i64 N,.fn f cap] G=some (i64 r,G)∧0≤r∧r≤N∧(0<r→p (r-1)=false)∧(r<N→p r=true):=by
 suffices hs:∀Q:V→List aS→Prop,(∀r,0≤r→r≤N→(0<r→p (r-1)=false)→(r<N→p r=true)→Q (i64 r) G)→gA (aZ F) 250 [i64 N,.fn f cap] G Q by
  obtain⟨_,_,h,r,rfl,rfl,h1⟩:=hs (fun v G'=>∃r,v=i64 r∧G'=G∧0≤r∧r≤N∧(0<r→p (r-1)=false)∧(r<N→p r=true)) fun r a b c d=>⟨r,rfl,rfl,a,b,c,d⟩;exact⟨r,h,h1⟩
 intro Q hQ;refine gM rfl rfl ?_;simp (disch:=omega) [wrap64,adj];refine go_loop (fun s:Int×Int=>aqo (.fn f cap) s.1 s.2 G) (fun s=>0≤s.1∧s.1≤s.2∧s.2≤N∧(0<s.1→p (s.1-1)=false)∧(s.2<N→p s.2=true)) (fun s=>(s.2-s.1).toNat) (0,N) rfl (by simp) ⟨by simp,by simpa using hN,by simp,by simp,by simp⟩ ?_
 rintro⟨a,b⟩ ⟨h1,h2,h3,h4,h5⟩;simp only at h1 h2 h3 h4 h5;simp (disch:=omega) [wrap64,adi];refine bT (fun h6=>?_) (fun h6=>?_)
 ·have e1:IntKind.u64.wrap (a+b)=a+b:=asP (by omega) (by omega)
  have e2:(a+b).fdiv 2=(a+b) / 2:=Int.fdiv_eq_ediv_of_nonneg _ (by omega)
  have hp:=h ((a+b) / 2) (by omega) (by omega)
  have e3:(2:Int) ^ (min 1 IntKind.u64.bits)=2:=rfl;simp (disch:=omega) [wrap64,e1,e2,e3,hp];cases hq:p ((a+b) / 2) with
  |false =>
   simp (disch:=omega) [wrap64,wrap64];refine bP ((a+b) / 2+1,b) (by simp) ⟨by simp;omega,by simp;omega,h3,fun _=>?_,h5⟩ (by simp;omega)
   simpa using hq
  |true =>
   simp (disch:=omega) [wrap64,wrap64];exact bP (a,(a+b) / 2) (by simp) ⟨h1,by simp;omega,by simp;omega,h4,fun _=>hq⟩ (by simp;omega)
 ·obtain rfl:a=b:=by omega
  exact hQ a (by omega) (by omega) h4 h5
def wg(p:Int→Bool):Nat→Int→Int
 |0,o=>o
 |n+1,o=>if p o then o else wg p n (o+1)
theorem TM{p:Int→Bool}:∀{n:Nat} {o x:Int},o≤x→x≤o+n→(∀m,o≤m→m<x→p m=false)→(x<o+n→p x=true)→wg p n o=x
 |0,o,x,h1,h2,_,_=>by simp[wg];omega
 |n+1,o,x,h1,h2,h3,h4=>by
  unfold wg;by_cases h:o=x
  ·subst h
   rw[aM (h4 (by omega))]
  ·rw[ay (by rw[h3 o (by omega) (by omega)];simp)]
   exact TM (by omega) (by omega) (fun m a b=>h3 m (by omega) b) (fun a=>h4 (by omega))
theorem asR{f:FuncId}{cap:List V}{G:List aS}{i j:Nat}{lo hi m:Int}{b:Bool}(h1:G[i]?=some (.cells [.fn f cap]))(h2:G[j]?=some (.cells [i64 lo,i64 hi]))
  (hw:-1000000≤lo+m∧lo+m≤1000000) (h:aZ F f (i64 (lo+m)::cap) G=some (.bool b,G)):aZ F 251 [i64 m,.bm i 0,.bm j 0] G=some (.bool b,G) :=
 bM rfl rfl (by
  have e:IntKind.i64.wrap (lo+m)=lo+m:=wrap64 (by omega) (by omega)
  simp[wrap64,adk,h1,h2,h,e])
theorem asS{f:FuncId}{cap:List V}{G:List aS}{lo hi:Int}{p:Int→Bool}(hl:0≤lo∧lo≤hi∧hi≤1000)(hp:∀m m',p m=true→m≤m'→p m'=true)
  (h:∀E m,lo≤m→m≤hi→aZ F f (i64 m::cap) (G++E)=some (.bool (p m),G++E)) :
  aZ F 242 [.agg [i64 lo,i64 hi],.fn f cap] G=some (i64 (wg p (hi-lo).toNat lo),G++[.cells [i64 lo,i64 hi],.cells [.fn f cap]]):=by
 have hs:aeW 251 [.bm (G.length+1) 0,.bm G.length 0] (G++[.cells [i64 lo,i64 hi],.cells [.fn f cap]]) (hi-lo+1) (fun m=>p (lo+m)):=fun m a b =>
  asR Yo Fe (by omega) (h _ _ (by omega) (by omega))
 obtain⟨r,h1,h2,h3,h4,h5⟩:=asQ (by omega) (by omega) hs
 have e:wg p (hi-lo).toNat lo=min (lo+r) hi:=by
  refine TM (by omega) (by omega) (fun m a b=>?_) (fun a=>?_)
  ·have h6:=h4 (by omega)
   cases hq:p m with
   |false=>rfl
   |true =>
    have:=hp m (lo+(r-1)) hq (by omega)
    rw[h6]at this;cases this
  ·have:=h5 (by omega)
   rw[show min (lo+r) hi=lo+r by omega]
   exact this
 rw[e];exact bM rfl rfl (by
  simp (disch:=omega) [wrap64,ac8,h1,Fe,Yo])
theorem asT{G:List aS}{i j:Nat}{m w:Int}{c:List Pt}(h1:G[i]?=some (.cells [.fn 238 []]))(h2:G[j]?=some (.cells [iM c,i64 w]))(hc:c=[]∨gB c=0) :
  aZ F 243 [i64 m,.bm i 0,.bm j 0] G=some (.bool (decide (w≤tT c m)),G) :=
 bM rfl rfl (by
  simp[wrap64,ac9,h1,h2,asF hc])
def qN(lv w:Int)(g:Gt)(s:Gs)(sum:Int):Int :=
 if sum<w then wg (fun o=>decide (w-(sum-gC lv g s)≤jn g o lv)) ((ff g s).hi-(ff g s).lo).toNat (ff g s).lo else (ff g s).lo
def bs(lv w:Int)(g:List Gt)(s:List Gs):Nat→List Int×Int
 |0=>(mg Bd.lo g s,mf (gC lv) g s g.length)
 |i+1=>((bs lv w g s i).1.set i (qN lv w (nth g i) (nth s i) (bs lv w g s i).2),(bs lv w g s i).2-gC lv (nth g i) (nth s i)+jn (nth g i) (qN lv w (nth g i) (nth s i) (bs lv w g s i).2) lv)
def FY(o:Int)(s:Gs):Gs:=⟨o,s.j⟩
def nB(l:List Int)(s:List Gs):List Gs:=List.zipWith FY l s
noncomputable def lD(g:List Gt)(s:List Gs)(lv w:Int):Int:=if aE g s lv≠0 then aE g s lv else if ¬(0≤w∧w≤1073741824) then 1 else 0
noncomputable def pC(g:List Gt)(s:List Gs)(lv w:Int):List Gs:=if lD g s lv w=0 then nB (bs lv w g s g.length).1 s else []
noncomputable def oK(g:List Gt)(s:List Gs)(lv w:Int):Int:=if lD g s lv w=0 then (bs lv w g s g.length).2 else 0
theorem pD{lv w:Int}{g:List Gt}{s:List Gs}(hl:g.length=s.length):∀i,(bs lv w g s i).1.length=g.length
 |0=>B2 hl
 |i+1=>by simp[bs,pD hl i]
theorem DR{g:Gt}{s:Gs}(h:Gv g)(hs:n0 g s):0≤(ff g s).lo∧(ff g s).lo≤(ff g s).hi∧(ff g s).hi≤g.di:=by
 have h1:=h.di;have h2:=h.move;have h3:=hs.1;have h4:=hs.2;unfold ff;split
 ·simp only;omega
 ·simp only;omega
theorem aeX{p:Int→Bool}:∀{n:Nat} {o:Int},o≤wg p n o∧wg p n o≤o+n
 |0,o=>by simp[wg]
 |n+1,o=>by
  unfold wg;have:=aeX (p:=p) (n:=n) (o:=o+1);split
  ·omega
  ·omega
theorem asU{lv w:Int}{g:Gt}{s:Gs}(h:Gv g)(hs:n0 g s)(sum:Int):(ff g s).lo≤qN lv w g s sum∧qN lv w g s sum≤(ff g s).hi:=by
 have:=DR h hs;unfold qN;split
 ·have:=aeX (p:=fun o=>decide (w-(sum-gC lv g s)≤jn g o lv)) (n:=((ff g s).hi-(ff g s).lo).toNat) (o:=(ff g s).lo)
  omega
 ·omega
theorem asV{lv w:Int}{g:List Gt}{s:List Gs}(hl:g.length=s.length)(hs:Az g s)(hv:∀i,i<g.length→Gv (nth g i)):∀i,i≤g.length →
  mf (gC lv) g s g.length-mf (gC lv) g s i≤(bs lv w g s i).2∧(bs lv w g s i).2≤mf (gC lv) g s g.length-mf (gC lv) g s i+1073741824*i:=by
 intro i;induction i with
 |zero=>intro _;simp[bs,Jw]
 |succ i ih =>
  intro hi;have h1:=ih (by omega)
  have h2:=uM (hv i (by omega)) (qN lv w (nth g i) (nth s i) (bs lv w g s i).2) lv
  have h3:=uM (hv i (by omega)) (ff (nth g i) (nth s i)).lo lv
  rw[DQ (by omega) (by omega)]
  simp only[bs,gC]at h1 ⊢;omega
theorem aeY{lv w:Int}{g:List Gt}{s:List Gs}(hl:g.length=s.length)(hn:g.length≤8)(hs:Az g s)(hv:∀i,i<g.length→Gv (nth g i)){i:Nat}(hi:i≤g.length) :
  0≤(bs lv w g s i).2∧(bs lv w g s i).2≤17179869184∧(i<g.length→gC lv (nth g i) (nth s i)≤(bs lv w g s i).2):=by
 have h1:=asV (lv:=lv) (w:=w) hl hs hv i hi;have r:=TK (f:=gC lv) hl (fun i hi=>uM (hv i hi) _ _);have r1:=r g.length (bV _);have r2:=r i hi;have mono:∀k,i≤k→k≤g.length→mf (gC lv) g s i≤mf (gC lv) g s k:=by
  intro k h;induction k with
  |zero=>intro _;obtain rfl:i=0:=by omega
         omega
  |succ k ih =>
   intro hk;rcases cF k i with h3|h3
   ·obtain rfl:i=k+1:=by omega
    omega
   ·rw[DQ (by omega) (by omega)]
    have:=ih h3 (by omega)
    have:=uM (hv k (by omega)) (ff (nth g k) (nth s k)).lo lv
    unfold gC;unfold gC at *;omega
 have m1:=mono g.length hi (bV _);refine⟨by omega,by omega,fun h=>?_⟩
 have m2:=mono (i+1) (by omega) (by omega)
 have m3:mf (gC lv) g s (i+1)≤mf (gC lv) g s g.length:=by
  have asW:∀k,i+1≤k→k≤g.length→mf (gC lv) g s (i+1)≤mf (gC lv) g s k:=by
   intro k hk;induction k with
   |zero=>omega
   |succ k ih =>
    intro pd;rcases cF k (i+1) with h3|h3
    ·obtain rfl:i=k:=by omega
     omega
    ·rw[DQ (i:=k) (by omega) (by omega)]
     have:=ih h3 (by omega)
     have:=uM (hv k (by omega)) (ff (nth g k) (nth s k)).lo lv
     unfold gC;unfold gC at *;omega
  exact asW g.length (by omega) (bV _)
 rw[DQ (by omega) (by omega)]at m3
 omega
theorem asX(g:List Gt)(s:List Gs)(lv w:Int):∃G',aZ F 230 [kr g,lC s,i64 lv,i64 w] []=some (.tuple [.slice (some 0) 2 ((pC g s lv w).map Gs.row),i64 (oK g s lv w),i64 (lD g s lv w)],G'):=by
 suffices h:∀Q:V→List aS→Prop,(∀G',Q (.tuple [.slice (some 0) 2 ((pC g s lv w).map Gs.row),i64 (oK g s lv w),i64 (lD g s lv w)]) G')→gA (aZ F) 230 [kr g,lC s,i64 lv,i64 w] [] Q by
  obtain⟨_,G',h,rfl⟩:=h (fun v G'=>v=.tuple [.slice (some 0) 2 ((pC g s lv w).map Gs.row),i64 (oK g s lv w),i64 (lD g s lv w)]) fun _=>rfl;exact⟨G',h⟩
 intro Q hQ;refine gM rfl rfl ?_;by_cases he:aE g s lv=0
 ·obtain⟨h1,h2,h3,h4,h5⟩:=Jv he
  by_cases hw:0≤w∧w≤1073741824
  ·have hE:lD g s lv w=0:=by simp[lD,he,hw]
   simp only[pC,oK,hE,if_true]at hQ;have uC:(!decide (0≤w) || !decide (w≤1073741824))=false:=by simp;omega
   have xG:(decide (0≤w)&&decide (w≤1073741824))=true:=by simp;omega
   have e0:bs lv w g s 0=(mg Bd.lo g s,mf (gC lv) g s g.length):=rfl;simp (disch:=omega) [-getElem?_pos,wrap64,MA,TL,FX,he,dJ,uC,xG];have hou:∀i,i≤g.length→(nB ((bs lv w g s i).1.take i) (s.take i)).length=i:=fun i hi=>by
    have:=pD (lv:=lv) (w:=w) h2 i;simp[nB];omega
   refine go_loop (fun x:Nat×List aS=>apZ (lC s) lv w (bs lv w g s x.1).2 (.bm 0 0) (.slice (some 1083) 2 ((nB ((bs lv w g s x.1).1.take x.1) (s.take x.1)).map Gs.row)) (kr g) g.length x.1 x.1 x.2)
    (fun x=>x.1≤g.length∧x.2[0]?=some (.cells [.fn 238 []])) (fun x=>g.length-x.1) (0,[.cells [.fn 238 []]]) rfl (by simp[bs,nB]) ⟨by simp,rfl⟩ ?_
   rintro⟨i,G⟩ ⟨hi,hG⟩;simp only at hi hG;have FZ:=hou i hi;have F3:0<G.length:=by
    rcases mq G.length with h|h
    ·rw[jT (by omega)]at hG;cases hG
    ·exact h
   simp (disch:=omega) [-getElem?_pos,wrap64,acY];refine bT (fun h6=>?_) (fun h6=>?_)
   ·have h6:i<g.length:=by omega
    have h7:i<s.length:=by omega
    obtain⟨t,ht⟩:=aeT (h4 i h6) lv [];have hr:=aeU (h4 i h6) (h3 i h6);have hk:=TJ (h4 i h6) lv;have hf:=TG hk;have hro:=DR (h4 i h6) (h3 i h6);have hm:=(h4 i h6).di;obtain⟨b1,b2,b3⟩:=aeY (lv:=lv) (w:=w) h2 h1 h3 h4 (i:=i) hi;have b3:=b3 h6;have b4:=uM (h4 i h6) (ff (nth g i) (nth s i)).lo lv;have b5:=uM (h4 i h6) (qN lv w (nth g i) (nth s i) (bs lv w g s i).2) lv;have DS:=pD (lv:=lv) (w:=w) h2 i;have M9:nB ((bs lv w g s (i+1)).1.take (i+1)) (s.take (i+1))=nB ((bs lv w g s i).1.take i) (s.take i)++[FY (qN lv w (nth g i) (nth s i) (bs lv w g s i).2) (nth s i)]:=by
     unfold nB;rw[Av (by rw[pD h2];exact h6) h7]
     simp only[bs];rw[V4 (bV _)];congr 2;simp[nth,DS,h6]
    by_cases xF:(bs lv w g s i).2<w
    ·have zK:qN lv w (nth g i) (nth s i) (bs lv w g s i).2=wg (fun o=>decide (w-((bs lv w g s i).2-gC lv (nth g i) (nth s i))≤jn (nth g i) o lv)) ((ff (nth g i) (nth s i)).hi-(ff (nth g i) (nth s i)).lo).toNat (ff (nth g i) (nth s i)).lo:=by
      unfold qN;rw[aM xF]
     have hL:=asS (f:=243) (cap:=[.bm 0 0,.bm G.length 0]) (G:=G++[.cells [iM (sY (nth g i).r lv),i64 (w-((bs lv w g s i).2-gC lv (nth g i) (nth s i)))]]) (lo:=(ff (nth g i) (nth s i)).lo) (hi:=(ff (nth g i) (nth s i)).hi)
      (p:=fun o=>decide (w-((bs lv w g s i).2-gC lv (nth g i) (nth s i))≤jn (nth g i) o lv)) (by omega) (fun m m' hp zB=>by
       have:=asL (h4 i h6) (lv:=lv) zB;simp only[iD]at hp ⊢;omega) (fun E m _ _=>asT (by rw[uW,nG F3];exact hG) (by rw[uW];exact Fe) hk)
     rw[←zK]at hL;unfold gC jn at hL b3;unfold jn at b4 b5;simp (disch:=omega) [-getElem?_pos,wrap64,bf (l:=g),bf (l:=s),ht,hr,hf,Fe,xF];simp (disch:=omega) [-getElem?_pos,wrap64,hL,Fe,hf,bf (l:=s),FZ];refine bP (i+1,G++[.cells [iM (sY (nth g i).r lv),i64 (w-((bs lv w g s i).2-gC lv (nth g i) (nth s i)))],.cells [i64 (ff (nth g i) (nth s i)).lo,i64 (ff (nth g i) (nth s i)).hi],.cells [.fn 243 [.bm 0 0,.bm G.length 0]]])
      (by rw[M9];simp[bs,gC,jn,FY,FZ]) ⟨by simp;omega,by simp only;rw[nG F3];exact hG⟩ (by simp;omega)
    ·have zK:qN lv w (nth g i) (nth s i) (bs lv w g s i).2=(ff (nth g i) (nth s i)).lo:=by
      unfold qN;rw[ay xF]
     have hb:(bs lv w g s (i+1)).2=(bs lv w g s i).2:=by
      simp only[bs,gC,zK];omega
     simp (disch:=omega) [-getElem?_pos,wrap64,bf (l:=g),bf (l:=s),ht,hr,hf,Fe,xF,FZ];refine bP (i+1,G++[.cells [iM (sY (nth g i).r lv),i64 0]])
      (by rw[M9,hb,zK];simp[FY,FZ]) ⟨by simp;omega,by simp only;rw[nG F3];exact hG⟩ (by simp;omega)
   ·obtain rfl:i=g.length:=by omega
    have t1:(bs lv w g s g.length).1.take g.length=(bs lv w g s g.length).1:=mo (by rw[pD h2];omega)
    have t2:s.take g.length=s:=mo (by omega)
    rw[t1,t2]at FZ ⊢;simp (disch:=omega) [-getElem?_pos,wrap64,FZ];exact hQ _
  ·have xG:(decide (0≤w)&&decide (w≤1073741824))=false:=by simp;omega
   have hE:lD g s lv w=1:=by simp[lD,he];omega
   have yR:¬ lD g s lv w=0:=by rw[hE];omega
   simp only[pC,oK,ay yR]at hQ;rw[hE]at hQ;have uC:(!decide (0≤w) || !decide (w≤1073741824))=true:=by simp;omega
   simp (disch:=omega) [-getElem?_pos,wrap64,MA,TL,FX,he,dJ,uC,xG];exact hQ _
 ·have hE:lD g s lv w=aE g s lv:=by simp[lD,he]
  have yR:¬ lD g s lv w=0:=by rw[hE];exact he
  simp only[pC,oK,ay yR]at hQ;rw[hE]at hQ;simp (disch:=omega) [-getElem?_pos,wrap64,MA,TL,FX,he];exact hQ _
end Go.Proofs.YtmppfkgfnnebeaaGreatDoor
namespace Go.Proofs.YtmppfkgfnnebeaaGreatDoor
set_option linter.all false
open Go.Vm
theorem Na{l:List Int}{i:Nat}{o:Int}(h:i<l.length):nth (l.set i o) i=o:=by simp[nth,h]
theorem aeZ{l:List Int}{i k:Nat}{o:Int}(h:i≠k):nth (l.set i o) k=nth l k:=by simp[nth,h]
theorem ae0{l:List Int}{i:Nat}(h:i<l.length):l.set i (nth l i)=l:=by
 apply wD;intro k;by_cases hk:i=k
 ·subst hk
  rw[VU h,bf h]
 ·rw[VT hk]
theorem as0{g:List Gt}{l:List Int}{lv o:Int}{i:Nat}(hl:g.length=l.length)(hi:i<g.length):∀k,k≤g.length→qM g (l.set i o) lv k=qM g l lv k+(if i<k then jn (nth g i) o lv-jn (nth g i) (nth l i) lv else 0):=by
 intro k;induction k with
 |zero=>intro _;simp[M8]
 |succ k ih =>
  intro hk;rw[Jy (by omega) (by simp;omega),Jy (by omega) (by omega),ih (by omega)]
  by_cases h1:i=k
  ·subst h1
   rw[Na (by omega),ay (by omega),aM (by omega)]
   omega
  ·rw[aeZ h1]
   by_cases h2:i<k
   ·rw[aM h2,aM (by omega)];omega
   ·rw[ay h2,ay (by omega)];omega
section
variable {g:List Gt} {s:List Gs} {lv w:Int}
theorem Nb(hl:g.length=s.length):∀{i k:Nat},i≤k→k<g.length→nth (bs lv w g s i).1 k=(ff (nth g k) (nth s k)).lo:=by
 intro i;induction i with
 |zero=>intro k _ hk;exact Jx hk (by omega)
 |succ i ih =>
  intro k h hk;simp only[bs];rw[aeZ (by omega)]
  exact ih (by omega) hk
theorem TN(hl:g.length=s.length){i:Nat}(ht:qM g (bs lv w g s i).1 lv g.length=(bs lv w g s i).2)(hi:i<g.length)(o:Int) :
  qM g ((bs lv w g s i).1.set i o) lv g.length=(bs lv w g s i).2-gC lv (nth g i) (nth s i)+jn (nth g i) o lv:=by
 rw[as0 (by rw[pD hl]) hi _ (bV _),aM hi,ht,Nb hl (bV _) hi]
 unfold gC;omega
theorem Nc(hl:g.length=s.length):∀i,i≤g.length→qM g (bs lv w g s i).1 lv g.length=(bs lv w g s i).2:=by
 intro i;induction i with
 |zero=>intro _;exact asO hl _ (bV _)
 |succ i ih =>
  intro hi;have:=TN hl (ih (by omega)) (by omega) (qN lv w (nth g i) (nth s i) (bs lv w g s i).2)
  simpa only[bs] using this
theorem as1(hl:g.length=s.length){j:Nat}(hw:w≤(bs lv w g s j).2):∀k,j≤k→k≤g.length→bs lv w g s k=bs lv w g s j:=by
 intro k hjk;induction k with
 |zero=>intro _;obtain rfl:j=0:=by omega
        rfl
 |succ k ih =>
  intro hk;rcases cF k j with h|h
  ·obtain rfl:j=k+1:=by omega
   rfl
  ·have h1:=ih h (by omega)
   have ho:qN lv w (nth g k) (nth s k) (bs lv w g s k).2=(ff (nth g k) (nth s k)).lo:=by
    unfold qN;rw[ay (by rw[h1];omega)]
   have h2:bs lv w g s (k+1)=bs lv w g s k:=by
    have e1:(bs lv w g s k).1.set k (ff (nth g k) (nth s k)).lo=(bs lv w g s k).1:=by
     rw[←Nb (lv:=lv) (w:=w) hl (bV k) (by omega)]
     exact ae0 (by rw[pD hl];omega)
    simp only[bs,ho,gC,e1];rw[show(bs lv w g s k).2-jn (nth g k) (ff (nth g k) (nth s k)).lo lv+jn (nth g k) (ff (nth g k) (nth s k)).lo lv=(bs lv w g s k).2 by omega]
   rw[h2,h1]
structure Way(lv w:Int)(g:List Gt)(s:List Gs)(i:Nat)(o:Int):Prop where
 lt:i<g.length
 lo:(ff (nth g i) (nth s i)).lo≤o
 hi:o≤(ff (nth g i) (nth s i)).hi
 no:∀p,(ff (nth g i) (nth s i)).lo≤p→p<o→(bs lv w g s i).2-gC lv (nth g i) (nth s i)+jn (nth g i) p lv<w
theorem Way.done{i:Nat}{o:Int}(h:Way lv w g s i o)(hv:Gv (nth g i))(hs:n0 (nth g i) (nth s i))(hd:o=(ff (nth g i) (nth s i)).hi∨w≤(bs lv w g s i).2-gC lv (nth g i) (nth s i)+jn (nth g i) o lv) :
  qN lv w (nth g i) (nth s i) (bs lv w g s i).2=o:=by
 have h1:=h.lo;have h2:=h.hi;unfold qN;split
 ·refine TM h1 (by omega) (fun p a b=>?_) (fun a=>?_)
  ·have:=h.no p a b
   exact decide_eq_false (by omega)
  ·rcases hd with hd|hd
   ·omega
   ·exact jf (by omega)
 ·rename_i hn
  by_cases he:(ff (nth g i) (nth s i)).lo=o
  ·exact he
  ·have:=h.no _ (uc _) (by omega)
   unfold gC at this;omega
theorem ae1(hl:g.length=s.length){i:Nat}(hi:i<g.length)(hv:Gv (nth g i))(hs:n0 (nth g i) (nth s i)):Way lv w g s i (ff (nth g i) (nth s i)).lo :=
 ⟨hi,uc _,(DR hv hs).2.1,fun p a b=>by omega⟩
theorem ae2(hl:g.length=s.length){i:Nat}(hi:i<g.length):(bs lv w g s i).1.set i (ff (nth g i) (nth s i)).lo=(bs lv w g s i).1:=by
 rw[←Nb (lv:=lv) (w:=w) hl (bV i) hi];exact ae0 (by rw[pD hl];exact hi)
end
end Go.Proofs.YtmppfkgfnnebeaaGreatDoor
namespace Go.Proofs.YtmppfkgfnnebeaaGreatDoor
set_option linter.all false
open Go.Vm
attribute [local simp] lZ l7 lX lY
theorem ae3{l:List Int}{i:Nat}(h:l.length≤i):nth l i=0:=by
 simp only[nth,List.getD,jT h];rfl
theorem as2(g:List Gt)(s:List Gs)(lv w:Int)(G:List aS):aZ F 103 [kr g,lC s,i64 lv,i64 w] G=some (.tuple [.slice (some 0) 2 ((pC g s lv w).map Gs.row),i64 (oK g s lv w),i64 (lD g s lv w)],G) :=
 bM rfl rfl (by
  generalize hW:V.tuple [.slice (some 0) 2 ((pC g s lv w).map Gs.row),i64 (oK g s lv w),i64 (lD g s lv w)]=W;by_cases he:aE g s lv=0
  ·obtain⟨h1,h2,h3,h4,h5⟩:=Jv he
   by_cases hw:0≤w∧w≤1073741824
   ·have hE:lD g s lv w=0:=by simp[lD,he,hw]
    simp only[pC,oK,hE,if_true]at hW;have uC:(!decide (0≤w) || !decide (w≤1073741824))=false:=by simp;omega
    have xG:(decide (0≤w)&&decide (w≤1073741824))=true:=by simp;omega
    have yR:=asM h2 h1 h3 h4;by_cases hg:g=[]
    ·subst hg
     have hs0:s=[]:=by simpa using h2.symm
     subst hs0;have hE3:aZ F 147 [.slice none 3 [],.slice none 2 []] []=some (.tuple [.slice (some 0) 1 [],.slice (some 0) 1 []],[]):=yR [];have hT3:aZ F 148 [.slice none 3 [],.slice none 1 [],i64 lv] []=some (i64 0,[]):=Jz (g:=[]) (l:=[]) rfl (by simp) (by simp) lv []
     have e2:kz 20031 0 (.tuple [.slice (some 0) 1 [],.slice (some 0) 1 []])=some (.tuple [.dY 1,.slice none 1 []],none):=rfl;have he0:aZ F 146 [.slice none 3 [],.slice none 2 [],i64 lv] []=some (i64 0,[]):=by
      have:=M6 [] [] lv [];rw[he]at this;exact this
     simp (disch:=omega) [-getElem?_pos,wrap64,IL,he0,c7,uC,xG,hE3,e2,aaN,Mg,aaO,Mh,vX,hT3];simpa [nB,bs,mf] using hW
    ·have cf:mg Bd.lo g s≠[]:=fun e=>hg (by have:=B2 (f:=Bd.lo) h2;rw[e]at this;exact oo.1 this.symm)
     have e2:=aln (id:=20031) (t:=0) (u:=0) (m:=mg Bd.hi g s) cf;have lq:=B2 (f:=Bd.lo) h2;simp (disch:=omega) [-getElem?_pos,wrap64,IL,M6,he,c7,uC,xG,yR,e2,lq];have gy:0<g.length:=Ck.2 hg;refine go_loop (fun x:Nat×List Int=>anE (kr g) (lC s) lv w g.length (ints (mg Bd.hi g s)) x.1 (dD x.2) G)
      (fun x=>(∃o,Way lv w g s x.1 o∧x.2=(bs lv w g s x.1).1.set x.1 o)∨(x.1=g.length∧x.2=(bs lv w g s g.length).1)) (fun x=>(g.length-x.1)*2000+(nth (mg Bd.hi g s) x.1-nth x.2 x.1).toNat) (0,mg Bd.lo g s) rfl (by simp) (.inl ⟨_,ae1 h2 gy (h4 0 gy) (h3 0 gy),by rw[ae2 h2 gy];rfl⟩) ?_
     rintro⟨i,l⟩ hinv;simp only at hinv;have hlen:l.length=g.length:=by
      rcases hinv with⟨o,_,rfl⟩ | ⟨_,rfl⟩
      ·rw[oR,pD h2]
      ·rw[pD h2]
     have hT:=Jz hlen.symm h1 h4 lv;rcases hinv with⟨o,hway,hl⟩ | ⟨rfl,rfl⟩
     ·have hi:=hway.lt
      have ae4:qM g l lv g.length=(bs lv w g s i).2-gC lv (nth g i) (nth s i)+jn (nth g i) o lv:=by
       rw[hl];exact TN h2 (Nc h2 i (by omega)) hi o
      rw[ae4]at hT;generalize hTT:(bs lv w g s i).2-gC lv (nth g i) (nth s i)+jn (nth g i) o lv=T at *;have bE:i<l.length:=by omega
      simp (disch:=omega) [-getElem?_pos,wrap64,Mg,hi,hT,hlen];have Nd:i<(mg Bd.hi g s).length:=by rw[B2 h2];exact hi
      have Nf:nth l i=o:=by rw[hl];exact Na (by rw[pD h2];exact hi)
      have F4:nth (mg Bd.hi g s) i=(ff (nth g i) (nth s i)).hi:=Jx hi (by omega)
      refine bT (fun h6=>?_) (fun h6=>?_)
      ·simp (disch:=omega) [-getElem?_pos,wrap64,l8 bE,ei Nd,Nf,F4]
       refine bT (fun h7=>?_) (fun h7=>?_)
       ·have hd:=hway.done (h4 i hi) (h3 i hi) (.inl h7)
        have hn:(bs lv w g s (i+1)).1=l:=by simp only[bs,hd,hl]
        refine bP (i+1,l) (by simp) ?_ ?_
        ·by_cases jy:i+1<g.length
         ·refine .inl ⟨_,ae1 h2 jy (h4 _ jy) (h3 _ jy),?_⟩
          simp only;rw[ae2 h2 jy,hn]
         ·exact .inr ⟨by simp only;omega,by simp only;rw[←hn,show g.length=i+1 by omega]⟩
        ·have oZ:nth (mg Bd.hi g s) (i+1)-nth l (i+1)≤1000:=by
          by_cases jy:i+1<g.length
          ·rw[Jx jy (by omega),← hn,Nb h2 (bV _) jy]
           have:=DR (h4 _ jy) (h3 _ jy);have:=(h4 _ jy).di;omega
          ·have e1:nth (mg Bd.hi g s) (i+1)=0:=ae3 (by rw[B2 h2];omega)
           have e2:nth l (i+1)=0:=ae3 (by omega)
           omega
         simp only;omega
       ·have nj:=hway.lo
        have ur:=hway.hi;have hro:=DR (h4 i hi) (h3 i hi);have hmo:=(h4 i hi).di;refine go_loop (fun l:List Int=>anD (kr g) (lC s) lv w g.length (ints (mg Bd.hi g s)) i (dD l) G)
         (fun m=>∃o',Way lv w g s i o'∧o≤o'∧m=(bs lv w g s i).1.set i o') (fun m=>(nth (mg Bd.hi g s) i-nth m i).toNat) l rfl (by simp[hlen]) ⟨o,hway,uc _,hl⟩ ?_
        rintro m ⟨o',hway',Bx,rfl⟩;have aCq:=hway'.lo;have aCr:=hway'.hi;have JA:((bs lv w g s i).1.set i o').length=g.length:=by rw[oR,pD h2]
        have xz:i<((bs lv w g s i).1.set i o').length:=by omega
        have F5:nth ((bs lv w g s i).1.set i o') i=o':=Na (by rw[pD h2];exact hi)
        have JB:=Jz JA.symm h1 h4 lv;rw[TN h2 (Nc h2 i (by omega)) hi o']at JB
        have Ew:∀z,((bs lv w g s i).1.set i o').set i z=(bs lv w g s i).1.set i z:=fun z=>by simp
        generalize hm:(bs lv w g s i).1.set i o'=m at JA xz F5 JB Ew ⊢;by_cases h8:o'<(ff (nth g i) (nth s i)).hi
        ·by_cases h9:(bs lv w g s i).2-gC lv (nth g i) (nth s i)+jn (nth g i) o' lv<w
         ·simp (disch:=omega) [-getElem?_pos,wrap64,Mf,l8 xz,ei Nd,F5,F4,h8,JB,JA,h9]
          refine bP (m.set i (o'+1)) (by simp) ⟨o'+1,⟨hi,by omega,by omega,fun p a b=>?_⟩,by omega,Ew _⟩ ?_
          ·by_cases hp:p=o'
           ·rw[hp];exact h9
           ·exact hway'.no p a (by omega)
          ·rw[Na xz];omega
         ·simp (disch:=omega) [-getElem?_pos,wrap64,Mf,l8 xz,ei Nd,F5,F4,h8,JB,JA,h9]
          refine bP (i,m) (by simp) (.inl ⟨o',hway',hm.symm⟩) ?_
          have:o≠o':=fun e=>by rw[←e,hTT]at h9;exact h9 h6
          simp only[F5,Nf,F4];omega
        ·simp (disch:=omega) [-getElem?_pos,wrap64,Mf,l8 xz,ei Nd,F5,F4,h8,JB,JA]
         refine bP (i,m) (by simp) (.inl ⟨o',hway',hm.symm⟩) ?_
         simp only[F5,Nf,F4];omega
      ·have hd:=hway.done (h4 i hi) (h3 i hi) (.inr (by omega))
       have TO:(bs lv w g s (i+1)).2=T:=by rw[←hTT];simp only[bs,hd]
       have hn:l=(bs lv w g s g.length).1:=by
        rw[as1 h2 (j:=i+1) (by omega) g.length (by omega) (bV _),hl]
        simp only[bs,hd]
       clear hT ae4 bE Nf
       subst hn;refine go_loop (fun k:Nat=>aaP (kr g) lv g.length (.slice (some 1096) 2 ((nB ((bs lv w g s g.length).1.take k) (s.take k)).map Gs.row)) (lC s) s.length k (dD (bs lv w g s g.length).1) k G) (fun k=>k≤s.length) (fun k=>s.length-k) 0 rfl (by simp[nB]) (by omega) ?_
       rintro k hk;have bu:(nB ((bs lv w g s g.length).1.take k) (s.take k)).length=k:=by
        have:=pD (lv:=lv) (w:=w) h2 g.length;simp[nB];omega
       have DS:=pD (lv:=lv) (w:=w) h2 g.length;have JC:=Jz DS.symm h1 h4 lv;rw[Nc h2 g.length (bV _)]at JC;simp (disch:=omega) [-getElem?_pos,wrap64,Mh,bu];refine bT (fun h6=>?_) (fun h6=>?_)
       ·have h6:k<s.length:=by omega
        have h7:k<(bs lv w g s g.length).1.length:=by omega
        simp (disch:=omega) [-getElem?_pos,wrap64,bf (l:=s),l8 h7,bu];refine bP (k+1) ?_ (by omega) (by omega)
        unfold nB;rw[Av h7 h6];simp[FY]
       ·obtain rfl:k=s.length:=by omega
        have t1:(bs lv w g s g.length).1.take s.length=(bs lv w g s g.length).1:=mo (by omega)
        rw[t1,na]at bu ⊢;simp (disch:=omega) [-getElem?_pos,wrap64,bu,DS,JC];exact hW
     ·have hi:¬ g.length<g.length:=gU _
      simp (disch:=omega) [-getElem?_pos,wrap64,Mg,hlen];refine go_loop (fun k:Nat=>aaP (kr g) lv g.length (.slice (some 1096) 2 ((nB ((bs lv w g s g.length).1.take k) (s.take k)).map Gs.row)) (lC s) s.length k (dD (bs lv w g s g.length).1) k G) (fun k=>k≤s.length) (fun k=>s.length-k) 0 rfl (by simp[nB]) (by omega) ?_
      rintro k hk;have bu:(nB ((bs lv w g s g.length).1.take k) (s.take k)).length=k:=by
       have:=pD (lv:=lv) (w:=w) h2 g.length;simp[nB];omega
      have DS:=pD (lv:=lv) (w:=w) h2 g.length;have JC:=Jz DS.symm h1 h4 lv;rw[Nc h2 g.length (bV _)]at JC;simp (disch:=omega) [-getElem?_pos,wrap64,Mh,bu];refine bT (fun h6=>?_) (fun h6=>?_)
      ·have h6:k<s.length:=by omega
       have h7:k<(bs lv w g s g.length).1.length:=by omega
       simp (disch:=omega) [-getElem?_pos,wrap64,bf (l:=s),l8 h7,bu];refine bP (k+1) ?_ (by omega) (by omega)
       unfold nB;rw[Av h7 h6];simp[FY]
      ·obtain rfl:k=s.length:=by omega
       have t1:(bs lv w g s g.length).1.take s.length=(bs lv w g s g.length).1:=mo (by omega)
       rw[t1,na]at bu ⊢;simp (disch:=omega) [-getElem?_pos,wrap64,bu,DS,JC];exact hW
   ·have xG:(decide (0≤w)&&decide (w≤1073741824))=false:=by simp;omega
    have hE:lD g s lv w=1:=by simp[lD,he];omega
    have yR:¬ lD g s lv w=0:=by rw[hE];omega
    simp only[pC,oK,ay yR]at hW;rw[hE]at hW;have uC:(!decide (0≤w) || !decide (w≤1073741824))=true:=by simp;omega
    simp (disch:=omega) [-getElem?_pos,wrap64,IL,M6,he,c7,uC,xG];exact hW
  ·have hE:lD g s lv w=aE g s lv:=by simp[lD,he]
   have yR:¬ lD g s lv w=0:=by rw[hE];exact he
   simp only[pC,oK,ay yR]at hW;rw[hE]at hW;simp (disch:=omega) [-getElem?_pos,wrap64,IL,M6,he];exact hW)
structure Dm where
 r:Rs
 u:List Un
 g:List Gt
 gr:Int
abbrev Dm.row(d:Dm):List V:=[iM d.r.c,i64 d.r.d,i64 d.r.l,i64 d.r.f,i64 d.r.s,i64 d.r.t,kJ d.u,kr d.g,i64 d.gr]
abbrev dm(d:Dm):V:=.agg d.row
structure Ds where
 v:Int
 rel:Int
 u:List Us
 g:List Gs
 deriving Inhabited
abbrev Ds.row(s:Ds):List V:=[i64 s.v,i64 s.rel,kn s.u,lC s.g]
abbrev dst(s:Ds):V:=.agg s.row
def uE(u:List Un):Int:=dH (fun i=>g6 (nth u i)) u.length 0
def gE(g:List Gt):Int:=dH (fun i=>kL (nth g i)) g.length 0
def fF(d:Dm):Int :=
 if iy d.r≠0 then iy d.r else if 6<d.u.length∨8<d.g.length then 10 else if uE d.u≠0 then uE d.u else if gE d.g≠0 then gE d.g
 else if d.gr<1∨1073741824<d.gr then 1 else 0
theorem DT(d:Dm)(G:List aS):aZ F 107 [dm d] G=some (i64 (fF d),G) :=
 bM rfl rfl (by
  obtain⟨r,u,g,gr⟩:=d;generalize hW:fF ⟨r,u,g,gr⟩=W;unfold fF at hW;simp only at hW;have hS:=fun G=>aee r G;have AA:=fun G=>BS r G;by_cases h1:iy r=0
  ·rw[ay (by omega)]at hW
   by_cases h2:6<u.length
   ·rw[aM (.inl h2)]at hW
    have mW:(6:Int)<u.length:=by omega
    simp (disch:=omega) [-getElem?_pos,wrap64,IM,hS,AA,h1,mW];exact hW
   by_cases h3:8<g.length
   ·rw[aM (.inr h3)]at hW
    have mW:¬ (6:Int)<u.length:=by omega
    have ja:(8:Int)<g.length:=by omega
    simp (disch:=omega) [-getElem?_pos,wrap64,IM,hS,AA,h1,mW,ja];exact hW
   rw[ay (by omega)]at hW
   have mW:¬ (6:Int)<u.length:=by omega
   have ja:¬ (8:Int)<g.length:=by omega
   simp (disch:=omega) [-getElem?_pos,wrap64,IM,hS,AA,h1,mW,ja];refine go_loop (fun i:Nat=>anP (kJ u) u.length i (Dm.row ⟨r,u,g,gr⟩) G) (fun i=>i≤u.length∧dH (fun i=>g6 (nth u i)) (u.length-i) i=uE u) (fun i=>u.length-i) 0 rfl (by simp) ⟨by omega,rfl⟩ ?_
   rintro i ⟨hi,hq⟩;simp (disch:=omega) [-getElem?_pos,wrap64,aaS];refine bT (fun h4=>?_) (fun h4=>?_)
   ·have h4:i<u.length:=by omega
    rw[kZ h4]at hq;by_cases h5:g6 (nth u i)=0
    ·rw[aM h5]at hq
     simp (disch:=omega) [-getElem?_pos,wrap64,bf (l:=u),tK,nX,h5];exact bP (i+1) (by simp) ⟨by omega,hq⟩ (by omega)
    ·rw[ay h5]at hq
     rw[←hq,aM h5]at hW;simp (disch:=omega) [-getElem?_pos,wrap64,bf (l:=u),tK,nX,h5];exact hW
   ·obtain rfl:i=u.length:=by omega
    rw[mO]at hq;rw[←hq,ay (by omega)]at hW
    refine go_loop (fun i:Nat=>anR (kr g) g.length i (Dm.row ⟨r,u,g,gr⟩) G) (fun i=>i≤g.length∧dH (fun i=>kL (nth g i)) (g.length-i) i=gE g) (fun i=>g.length-i) 0 rfl (by simp) ⟨by omega,rfl⟩ ?_
    rintro i ⟨hi,hq⟩;simp (disch:=omega) [-getElem?_pos,wrap64,aaT];refine bT (fun h4=>?_) (fun h4=>?_)
    ·have h4:i<g.length:=by omega
     rw[kZ h4]at hq;by_cases h5:kL (nth g i)=0
     ·rw[aM h5]at hq
      simp (disch:=omega) [-getElem?_pos,wrap64,bf (l:=g),BT,BU,h5];exact bP (i+1) (by simp) ⟨by omega,hq⟩ (by omega)
     ·rw[ay h5]at hq
      rw[←hq,aM h5]at hW;simp (disch:=omega) [-getElem?_pos,wrap64,bf (l:=g),BT,BU,h5];exact hW
    ·obtain rfl:i=g.length:=by omega
     rw[mO]at hq;rw[←hq,ay (by omega)]at hW
     by_cases h6:gr<1
     ·rw[aM (.inl h6)]at hW
      simp (disch:=omega) [-getElem?_pos,wrap64,h6];exact hW
     ·by_cases h7:1073741824<gr
      ·rw[aM (.inr h7)]at hW
       simp (disch:=omega) [-getElem?_pos,wrap64,h6,h7];exact hW
      ·rw[ay (by omega)]at hW
       simp (disch:=omega) [-getElem?_pos,wrap64,h6,h7];exact hW
  ·rw[aM h1]at hW
   simp (disch:=omega) [-getElem?_pos,wrap64,IM,hS,AA,h1];exact hW)
theorem DU(d:Dm)(G:List aS):aZ F 87 [dm d] G=some (i64 (fF d),G) :=
 bM rfl rfl (by
  obtain⟨r,u,g,gr⟩:=d;generalize hW:fF ⟨r,u,g,gr⟩=W;unfold fF at hW;simp only at hW;have hS:=fun G=>aee r G;have AA:=fun G=>BS r G;by_cases h1:iy r=0
  ·rw[ay (by omega)]at hW
   by_cases h2:6<u.length
   ·rw[aM (.inl h2)]at hW
    have mW:(6:Int)<u.length:=by omega
    simp (disch:=omega) [-getElem?_pos,wrap64,II,hS,AA,h1,mW];exact hW
   by_cases h3:8<g.length
   ·rw[aM (.inr h3)]at hW
    have mW:¬ (6:Int)<u.length:=by omega
    have ja:(8:Int)<g.length:=by omega
    simp (disch:=omega) [-getElem?_pos,wrap64,II,hS,AA,h1,mW,ja];exact hW
   rw[ay (by omega)]at hW
   have mW:¬ (6:Int)<u.length:=by omega
   have ja:¬ (8:Int)<g.length:=by omega
   simp (disch:=omega) [-getElem?_pos,wrap64,II,hS,AA,h1,mW,ja];refine go_loop (fun i:Nat=>am2 (kJ u) u.length i (Dm.row ⟨r,u,g,gr⟩) G) (fun i=>i≤u.length∧dH (fun i=>g6 (nth u i)) (u.length-i) i=uE u) (fun i=>u.length-i) 0 rfl (by simp) ⟨by omega,rfl⟩ ?_
   rintro i ⟨hi,hq⟩;simp (disch:=omega) [-getElem?_pos,wrap64,aax];refine bT (fun h4=>?_) (fun h4=>?_)
   ·have h4:i<u.length:=by omega
    rw[kZ h4]at hq;by_cases h5:g6 (nth u i)=0
    ·rw[aM h5]at hq
     simp (disch:=omega) [-getElem?_pos,wrap64,bf (l:=u),tK,nX,h5];exact bP (i+1) (by simp) ⟨by omega,hq⟩ (by omega)
    ·rw[ay h5]at hq
     rw[←hq,aM h5]at hW;simp (disch:=omega) [-getElem?_pos,wrap64,bf (l:=u),tK,nX,h5];exact hW
   ·obtain rfl:i=u.length:=by omega
    rw[mO]at hq;rw[←hq,ay (by omega)]at hW
    refine go_loop (fun i:Nat=>am4 (kr g) g.length i (Dm.row ⟨r,u,g,gr⟩) G) (fun i=>i≤g.length∧dH (fun i=>kL (nth g i)) (g.length-i) i=gE g) (fun i=>g.length-i) 0 rfl (by simp) ⟨by omega,rfl⟩ ?_
    rintro i ⟨hi,hq⟩;simp (disch:=omega) [-getElem?_pos,wrap64,aay];refine bT (fun h4=>?_) (fun h4=>?_)
    ·have h4:i<g.length:=by omega
     rw[kZ h4]at hq;by_cases h5:kL (nth g i)=0
     ·rw[aM h5]at hq
      simp (disch:=omega) [-getElem?_pos,wrap64,bf (l:=g),BT,BU,h5];exact bP (i+1) (by simp) ⟨by omega,hq⟩ (by omega)
     ·rw[ay h5]at hq
      rw[←hq,aM h5]at hW;simp (disch:=omega) [-getElem?_pos,wrap64,bf (l:=g),BT,BU,h5];exact hW
    ·obtain rfl:i=g.length:=by omega
     rw[mO]at hq;rw[←hq,ay (by omega)]at hW
     by_cases h6:gr<1
     ·rw[aM (.inl h6)]at hW
      simp (disch:=omega) [-getElem?_pos,wrap64,h6];exact hW
     ·by_cases h7:1073741824<gr
      ·rw[aM (.inr h7)]at hW
       simp (disch:=omega) [-getElem?_pos,wrap64,h6,h7];exact hW
      ·rw[ay (by omega)]at hW
       simp (disch:=omega) [-getElem?_pos,wrap64,h6,h7];exact hW
  ·rw[aM h1]at hW
   simp (disch:=omega) [-getElem?_pos,wrap64,II,hS,AA,h1];exact hW)
structure Sv(r:Rs):Prop where
 c:gB r.c=0
 two:2≤r.c.length
 top:(nth r.c (r.c.length-1)).x≤16777216
 up:∀i,1≤i→i<r.c.length→(nth r.c (i-1)).y<(nth r.c i).y
 d:(nth r.c 0).x≤r.d
 l:r.d≤r.l
 f:r.l≤r.f
 s:r.f≤r.s
 t:r.s≤r.t
 last:r.t≤(nth r.c (r.c.length-1)).x
theorem Ng{r:Rs}(h:iy r=0):Sv r:=by
 have hc:=tP h;unfold iy at h;rw[ay (by omega)]at h
 split at h
 ·cases h
 split at h
 ·cases h
 split at h
 ·rename_i h1 h2 h3
  have hp:=uK hc;have up:∀i,1≤i→i<r.c.length→(nth r.c (i-1)).y<(nth r.c i).y:=fun i a b=>by
   have:=sK h3 i a (by omega)
   unfold tN at this;split at this
   ·cases this
   ·omega
  have lv:∀i,1≤i→i<7→nth (tO r) (i-1)≤nth (tO r) i:=fun i a b=>by
   have:=sK h i a (by omega)
   unfold qJ at this;split at this
   ·cases this
   ·omega
  have l1:=lv 1 (by omega) (by omega)
  have l2:=lv 2 (by omega) (by omega)
  have l3:=lv 3 (by omega) (by omega)
  have l4:=lv 4 (by omega) (by omega)
  have l5:=lv 5 (by omega) (by omega)
  have l6:=lv 6 (by omega) (by omega)
  exact⟨hc,by omega,by omega,up,l1,l2,l3,l4,l5,l6⟩
 ·cases h
theorem ae9{r:Rs}(h:iy r=0){l:Int}(h1:(nth r.c 0).x≤l)(h2:l≤(nth r.c (r.c.length-1)).x):tQ r l=0:=by
 have v:=Ng h;have hp:=uK v.c;have:=(mQ v.c).x0 0 hp;have:=v.top;unfold tQ;rw[ay (by omega),aM (by omega)]
def ld(d:Dm):Int:=iw d.r.c d.r.t
def F6(d:Dm):Int:=iw d.r.c d.r.d
theorem TQ{r:Rs}(h:iy r=0):tQ r r.t=0:=by
 have v:=Ng h;have:=v.d;have:=v.l;have:=v.f;have:=v.s;have:=v.t;exact ae9 h (by omega) v.last
theorem as8{r:Rs}(h:iy r=0):tQ r r.d=0:=by
 have v:=Ng h;have:=v.last;have:=v.l;have:=v.f;have:=v.s;have:=v.t;exact ae9 h v.d (by omega)
def ik(d:Dm)(s:Ds):Prop:=(0≤s.v∧s.v≤ld d)∧(0≤s.rel∧s.rel≤1073741824)∧s.u.length=d.u.length∧s.g.length=d.g.length∧DJ d.u s.u∧Az d.g s.g
noncomputable instance {d:Dm} {s:Ds}:Decidable (ik d s):=Classical.propDecidable _
noncomputable def dE(d:Dm)(s:Ds):Int:=if fF d≠0 then fF d else if ik d s then 0 else 3
structure Dv(d:Dm):Prop where
 r:iy d.r=0
 u:d.u.length≤6
 g:d.g.length≤8
 uv:∀i,i<d.u.length→g6 (nth d.u i)=0
 gv:∀i,i<d.g.length→kL (nth d.g i)=0
 gr:1≤d.gr∧d.gr≤1073741824
theorem AB{d:Dm}(h:fF d=0):Dv d:=by
 unfold fF at h;split at h
 ·rename_i h1;exact absurd h h1
 split at h
 ·cases h
 split at h
 ·rename_i h1;exact absurd h h1
 split at h
 ·rename_i h1;exact absurd h h1
 split at h
 ·cases h
 rename_i h1 h2 h3 h4 h5;have h3:uE d.u=0:=g7 h3;have h4:gE d.g=0:=g7 h4;exact⟨g7 h1,by omega,by omega,fun i hi=>sK h3 i (by omega) (by omega),fun i hi=>sK h4 i (by omega) (by omega),by omega⟩
theorem afa{d:Dm}(h:iy d.r=0)(G:List aS):aZ F 214 [dm d] G=some (i64 (ld d),G) :=
 bM rfl rfl (by
  simp[wrap64,acF,ML (mQ (tP h)),ld])
theorem TR{d:Dm}(h:Dv d)(s:Ds)(G:List aS):aZ F 194 [dm d,dst s] G=some (.bool (decide (ik d s)),G) :=
 bM rfl rfl (by
  obtain⟨v,rel,su,sg⟩:=s;generalize hW:decide (ik d ⟨v,rel,su,sg⟩)=W;have no:¬ ik d ⟨v,rel,su,sg⟩→W=false:=fun hn=>by rw[←hW];simp[hn]
  unfold ik at no;simp only at no;have TS:=h.u;have hg8:=h.g;have hc:=afa h.r;by_cases h1:0≤v∧v≤ld d
  ·have a1:(decide (0≤v)&&decide (v≤ld d))=true:=by simp;omega
   have a2:(!decide (0≤v) || !decide (v≤ld d))=false:=by simp;omega
   by_cases h2:0≤rel∧rel≤1073741824
   ·have b1:(decide (0≤rel)&&decide (rel≤1073741824))=true:=by simp;omega
    have b2:(!decide (0≤rel) || !decide (rel≤1073741824))=false:=by simp;omega
    by_cases h3:su.length=d.u.length
    ·have c1:(su.length:Int)=d.u.length:=by omega
     by_cases h4:sg.length=d.g.length
     ·have d1:(sg.length:Int)=d.g.length:=by omega
      simp (disch:=omega) [-getElem?_pos,wrap64,uJ,hc,dJ,a1,a2,b1,b2,c1,d1];refine go_loop (fun i:Nat=>aps (kJ d.u) d.u.length i d.row [i64 v,i64 rel,kn su,lC sg] G) (fun i=>i≤d.u.length∧∀j,j<i→fc (nth d.u j) (nth su j)) (fun i=>d.u.length-i) 0 rfl (by simp) ⟨by omega,by omega⟩ ?_
      rintro i ⟨hi,hv⟩;simp (disch:=omega) [-getElem?_pos,wrap64,acj];refine bT (fun h5=>?_) (fun h5=>?_)
      ·have h5:i<d.u.length:=by omega
       have uN:i<su.length:=by omega
       by_cases h6:fc (nth d.u i) (nth su i)
       ·simp (disch:=omega) [-getElem?_pos,wrap64,bf (l:=d.u),bf (l:=su),BN,yM,h6]
        refine bP (i+1) (by simp) ⟨by omega,fun j hj=>?_⟩ (by omega)
        rcases cF j i with h7|h7
        ·exact hv j h7
        ·rwa [show j=i by omega]
       ·simp (disch:=omega) [-getElem?_pos,wrap64,bf (l:=d.u),bf (l:=su),BN,yM,h6]
        exact no (fun h=>h6 (h.2.2.2.2.1 i h5))
      ·obtain rfl:i=d.u.length:=by omega
       refine go_loop (fun i:Nat=>apu (kr d.g) d.g.length i [i64 v,i64 rel,kn su,lC sg] G) (fun i=>i≤d.g.length∧∀j,j<i→n0 (nth d.g j) (nth sg j)) (fun i=>d.g.length-i) 0 rfl (by simp) ⟨by omega,by omega⟩ ?_
       rintro i ⟨hi,hg⟩;simp (disch:=omega) [-getElem?_pos,wrap64,ack];refine bT (fun h5=>?_) (fun h5=>?_)
       ·have h5:i<d.g.length:=by omega
        have uN:i<sg.length:=by omega
        by_cases h6:n0 (nth d.g i) (nth sg i)
        ·have iz:(!decide (0≤(nth sg i).o) || !decide ((nth sg i).o≤(nth d.g i).di))=false:=by simp;exact h6
         simp (disch:=omega) [-getElem?_pos,wrap64,bf (l:=d.g),bf (l:=sg),dJ,B1,h6,iz];refine bP (i+1) (by simp) ⟨by omega,fun j hj=>?_⟩ (by omega)
         rcases cF j i with h7|h7
         ·exact hg j h7
         ·rwa [show j=i by omega]
        ·have iz:(!decide (0≤(nth sg i).o) || !decide ((nth sg i).o≤(nth d.g i).di))=true:=by
          have:¬ (0≤(nth sg i).o∧(nth sg i).o≤(nth d.g i).di):=h6;simp;omega
         simp (disch:=omega) [-getElem?_pos,wrap64,bf (l:=d.g),bf (l:=sg),dJ,B1,h6,iz];exact no (fun h=>h6 (h.2.2.2.2.2 i h5))
       ·obtain rfl:i=d.g.length:=by omega
        rw[←hW];have:ik d ⟨v,rel,su,sg⟩:=⟨h1,h2,h3,h4,hv,hg⟩;simp[this]
     ·have d1:¬ (sg.length:Int)=d.g.length:=by omega
      simp (disch:=omega) [-getElem?_pos,wrap64,uJ,hc,dJ,a1,a2,b1,b2,c1,d1];exact no (fun h=>h4 h.2.2.2.1)
    ·have c1:¬ (su.length:Int)=d.u.length:=by omega
     simp (disch:=omega) [-getElem?_pos,wrap64,uJ,hc,dJ,a1,a2,b1,b2,c1];exact no (fun h=>h3 h.2.2.1)
   ·have b1:(decide (0≤rel)&&decide (rel≤1073741824))=false:=by simp;omega
    have b2:(!decide (0≤rel) || !decide (rel≤1073741824))=true:=by simp;omega
    by_cases c1:(su.length:Int)=d.u.length
    ·by_cases d1:(sg.length:Int)=d.g.length
     ·simp (disch:=omega) [-getElem?_pos,wrap64,uJ,hc,dJ,a1,a2,b1,b2,c1,d1]
      exact no (fun h=>h2 h.2.1)
     ·simp (disch:=omega) [-getElem?_pos,wrap64,uJ,hc,dJ,a1,a2,b1,b2,c1,d1]
      exact no (fun h=>h2 h.2.1)
    ·simp (disch:=omega) [-getElem?_pos,wrap64,uJ,hc,dJ,a1,a2,b1,b2,c1]
     exact no (fun h=>h2 h.2.1)
  ·have a1:(decide (0≤v)&&decide (v≤ld d))=false:=by simp;omega
   have a2:(!decide (0≤v) || !decide (v≤ld d))=true:=by simp;omega
   by_cases h2:0≤rel∧rel≤1073741824
   ·have b1:(decide (0≤rel)&&decide (rel≤1073741824))=true:=by simp;omega
    have b2:(!decide (0≤rel) || !decide (rel≤1073741824))=false:=by simp;omega
    by_cases c1:(su.length:Int)=d.u.length
    ·by_cases d1:(sg.length:Int)=d.g.length
     ·simp (disch:=omega) [-getElem?_pos,wrap64,uJ,hc,dJ,a1,a2,b1,b2,c1,d1]
      exact no (fun h=>h1 h.1)
     ·simp (disch:=omega) [-getElem?_pos,wrap64,uJ,hc,dJ,a1,a2,b1,b2,c1,d1]
      exact no (fun h=>h1 h.1)
    ·simp (disch:=omega) [-getElem?_pos,wrap64,uJ,hc,dJ,a1,a2,b1,b2,c1]
     exact no (fun h=>h1 h.1)
   ·have b1:(decide (0≤rel)&&decide (rel≤1073741824))=false:=by simp;omega
    have b2:(!decide (0≤rel) || !decide (rel≤1073741824))=true:=by simp;omega
    by_cases c1:(su.length:Int)=d.u.length
    ·by_cases d1:(sg.length:Int)=d.g.length
     ·simp (disch:=omega) [-getElem?_pos,wrap64,uJ,hc,dJ,a1,a2,b1,b2,c1,d1]
      exact no (fun h=>h1 h.1)
     ·simp (disch:=omega) [-getElem?_pos,wrap64,uJ,hc,dJ,a1,a2,b1,b2,c1,d1]
      exact no (fun h=>h1 h.1)
    ·simp (disch:=omega) [-getElem?_pos,wrap64,uJ,hc,dJ,a1,a2,b1,b2,c1]
     exact no (fun h=>h1 h.1))
theorem atb{d:Dm}(hd:fF d=0)(s:Ds)(G:List aS):aZ F 88 [dm d,dst s] G=some (.bool (decide (ik d s)),G):=by
  have h:=AB hd;exact bM rfl rfl (by
   obtain⟨v,rel,su,sg⟩:=s;generalize hW:decide (ik d ⟨v,rel,su,sg⟩)=W;have no:¬ ik d ⟨v,rel,su,sg⟩→W=false:=fun hn=>by rw[←hW];simp[hn]
   unfold ik at no;simp only at no;have TS:=h.u;have hg8:=h.g;have hc:=fun G=>DU d G;have hV:=fun G=>MU d.r d.r.t G;have tU:=TQ h.r;have wi:iw d.r.c d.r.t=ld d:=rfl;by_cases h1:0≤v∧v≤ld d
   ·have a1:(decide (0≤v)&&decide (v≤ld d))=true:=by simp;omega
    have a2:(!decide (0≤v) || !decide (v≤ld d))=false:=by simp;omega
    by_cases h2:0≤rel∧rel≤1073741824
    ·have b1:(decide (0≤rel)&&decide (rel≤1073741824))=true:=by simp;omega
     have b2:(!decide (0≤rel) || !decide (rel≤1073741824))=false:=by simp;omega
     by_cases h3:su.length=d.u.length
     ·have c1:(su.length:Int)=d.u.length:=by omega
      by_cases h4:sg.length=d.g.length
      ·have d1:(sg.length:Int)=d.g.length:=by omega
       simp (disch:=omega) [-getElem?_pos,wrap64,tI,hc,hd,hV,tU,wi,c7,a1,a2,b1,b2,c1,d1];refine go_loop (fun i:Nat=>am6 (kJ d.u) d.u.length i d.row [i64 v,i64 rel,kn su,lC sg] G) (fun i=>i≤d.u.length∧∀j,j<i→fc (nth d.u j) (nth su j)) (fun i=>d.u.length-i) 0 rfl (by simp) ⟨by omega,by omega⟩ ?_
       rintro i ⟨hi,hv⟩;simp (disch:=omega) [-getElem?_pos,wrap64,aaz];refine bT (fun h5=>?_) (fun h5=>?_)
       ·have h5:i<d.u.length:=by omega
        have uN:i<su.length:=by omega
        by_cases h6:fc (nth d.u i) (nth su i)
        ·simp (disch:=omega) [-getElem?_pos,wrap64,bf (l:=d.u),bf (l:=su),BN,yM,h6]
         refine bP (i+1) (by simp) ⟨by omega,fun j hj=>?_⟩ (by omega)
         rcases cF j i with h7|h7
         ·exact hv j h7
         ·rwa [show j=i by omega]
        ·simp (disch:=omega) [-getElem?_pos,wrap64,bf (l:=d.u),bf (l:=su),BN,yM,h6]
         exact no (fun h=>h6 (h.2.2.2.2.1 i h5))
       ·obtain rfl:i=d.u.length:=by omega
        refine go_loop (fun i:Nat=>anb (kr d.g) d.g.length i [i64 v,i64 rel,kn su,lC sg] G) (fun i=>i≤d.g.length∧∀j,j<i→n0 (nth d.g j) (nth sg j)) (fun i=>d.g.length-i) 0 rfl (by simp) ⟨by omega,by omega⟩ ?_
        rintro i ⟨hi,hg⟩;simp (disch:=omega) [-getElem?_pos,wrap64,aaA];refine bT (fun h5=>?_) (fun h5=>?_)
        ·have h5:i<d.g.length:=by omega
         have uN:i<sg.length:=by omega
         by_cases h6:n0 (nth d.g i) (nth sg i)
         ·have iz:(!decide (0≤(nth sg i).o) || !decide ((nth sg i).o≤(nth d.g i).di))=false:=by simp;exact h6
          simp (disch:=omega) [-getElem?_pos,wrap64,bf (l:=d.g),bf (l:=sg),dJ,B1,h6,iz];refine bP (i+1) (by simp) ⟨by omega,fun j hj=>?_⟩ (by omega)
          rcases cF j i with h7|h7
          ·exact hg j h7
          ·rwa [show j=i by omega]
         ·have iz:(!decide (0≤(nth sg i).o) || !decide ((nth sg i).o≤(nth d.g i).di))=true:=by
           have:¬ (0≤(nth sg i).o∧(nth sg i).o≤(nth d.g i).di):=h6;simp;omega
          simp (disch:=omega) [-getElem?_pos,wrap64,bf (l:=d.g),bf (l:=sg),dJ,B1,h6,iz];exact no (fun h=>h6 (h.2.2.2.2.2 i h5))
        ·obtain rfl:i=d.g.length:=by omega
         rw[←hW];have:ik d ⟨v,rel,su,sg⟩:=⟨h1,h2,h3,h4,hv,hg⟩;simp[this]
      ·have d1:¬ (sg.length:Int)=d.g.length:=by omega
       simp (disch:=omega) [-getElem?_pos,wrap64,tI,hc,hd,hV,tU,wi,c7,a1,a2,b1,b2,c1,d1];exact no (fun h=>h4 h.2.2.2.1)
     ·have c1:¬ (su.length:Int)=d.u.length:=by omega
      simp (disch:=omega) [-getElem?_pos,wrap64,tI,hc,hd,hV,tU,wi,c7,a1,a2,b1,b2,c1];exact no (fun h=>h3 h.2.2.1)
    ·have b1:(decide (0≤rel)&&decide (rel≤1073741824))=false:=by simp;omega
     have b2:(!decide (0≤rel) || !decide (rel≤1073741824))=true:=by simp;omega
     by_cases c1:(su.length:Int)=d.u.length
     ·by_cases d1:(sg.length:Int)=d.g.length
      ·simp (disch:=omega) [-getElem?_pos,wrap64,tI,hc,hd,hV,tU,wi,c7,a1,a2,b1,b2,c1,d1]
       exact no (fun h=>h2 h.2.1)
      ·simp (disch:=omega) [-getElem?_pos,wrap64,tI,hc,hd,hV,tU,wi,c7,a1,a2,b1,b2,c1,d1]
       exact no (fun h=>h2 h.2.1)
     ·simp (disch:=omega) [-getElem?_pos,wrap64,tI,hc,hd,hV,tU,wi,c7,a1,a2,b1,b2,c1]
      exact no (fun h=>h2 h.2.1)
   ·have a1:(decide (0≤v)&&decide (v≤ld d))=false:=by simp;omega
    have a2:(!decide (0≤v) || !decide (v≤ld d))=true:=by simp;omega
    by_cases h2:0≤rel∧rel≤1073741824
    ·have b1:(decide (0≤rel)&&decide (rel≤1073741824))=true:=by simp;omega
     have b2:(!decide (0≤rel) || !decide (rel≤1073741824))=false:=by simp;omega
     by_cases c1:(su.length:Int)=d.u.length
     ·by_cases d1:(sg.length:Int)=d.g.length
      ·simp (disch:=omega) [-getElem?_pos,wrap64,tI,hc,hd,hV,tU,wi,c7,a1,a2,b1,b2,c1,d1]
       exact no (fun h=>h1 h.1)
      ·simp (disch:=omega) [-getElem?_pos,wrap64,tI,hc,hd,hV,tU,wi,c7,a1,a2,b1,b2,c1,d1]
       exact no (fun h=>h1 h.1)
     ·simp (disch:=omega) [-getElem?_pos,wrap64,tI,hc,hd,hV,tU,wi,c7,a1,a2,b1,b2,c1]
      exact no (fun h=>h1 h.1)
    ·have b1:(decide (0≤rel)&&decide (rel≤1073741824))=false:=by simp;omega
     have b2:(!decide (0≤rel) || !decide (rel≤1073741824))=true:=by simp;omega
     by_cases c1:(su.length:Int)=d.u.length
     ·by_cases d1:(sg.length:Int)=d.g.length
      ·simp (disch:=omega) [-getElem?_pos,wrap64,tI,hc,hd,hV,tU,wi,c7,a1,a2,b1,b2,c1,d1]
       exact no (fun h=>h1 h.1)
      ·simp (disch:=omega) [-getElem?_pos,wrap64,tI,hc,hd,hV,tU,wi,c7,a1,a2,b1,b2,c1,d1]
       exact no (fun h=>h1 h.1)
     ·simp (disch:=omega) [-getElem?_pos,wrap64,tI,hc,hd,hV,tU,wi,c7,a1,a2,b1,b2,c1]
      exact no (fun h=>h1 h.1))
theorem TT(d:Dm)(s:Ds)(G:List aS):aZ F 88 [dm d,dst s] G=some (.bool (decide (fF d=0∧ik d s)),G):=by
 by_cases hd:fF d=0
 ·rw[show decide (fF d=0∧ik d s)=decide (ik d s) by simp[hd]]
  exact atb hd s G
 ·rw[show decide (fF d=0∧ik d s)=false by simp[hd]]
  have hC:=fun G=>DU d G;generalize fF d=x at hd hC;obtain⟨v,rel,su,sg⟩:=s;exact bM rfl rfl (by
   simp[wrap64,tI,hC,hd])
theorem afb(d:Dm)(s:Ds)(G:List aS):aZ F 196 [dm d,dst s] G=some (.bool (decide (fF d=0∧ik d s)),G) :=
 bM rfl rfl (by
  by_cases hd:fF d=0
  ·simp[wrap64,Sj,DT,hd,TR (AB hd)]
  ·simp[wrap64,Sj,DT,hd])
theorem afc(d:Dm)(s:Ds)(G:List aS):aZ F 162 [dm d,dst s] G=some (i64 (dE d s),G) :=
 bM rfl rfl (by
  by_cases hd:fF d=0
  ·by_cases hf:ik d s
   ·simp[wrap64,Mp,DT,hd,TR (AB hd),hf,dE]
   ·simp[wrap64,Mp,DT,hd,TR (AB hd),hf,dE]
  ·simp[wrap64,Mp,DT,hd,dE])
theorem afd(d:Dm)(s:Ds)(G:List aS):aZ F 46 [dm d,dst s] G=some (i64 (dE d s),G) :=
 bM rfl rfl (by
  by_cases hd:fF d=0
  ·by_cases hf:ik d s
   ·simp[wrap64,L9,DU,hd,TT,hf,dE]
   ·simp[wrap64,L9,DU,hd,TT,hf,dE]
  ·simp[wrap64,L9,DU,hd,dE])
theorem F7{d:Dm}{s:Ds}(h:dE d s=0):Dv d∧ik d s:=by
 unfold dE at h;split at h
 ·rename_i h1;exact absurd h h1
 split at h
 ·rename_i h1 h2;exact⟨AB (g7 h1),h2⟩
 ·cases h
noncomputable def lvl(d:Dm)(s:Ds):Int:=if dE d s=0 then j7 d.r s.v else 0
theorem Nh(d:Dm)(s:Ds)(G:List aS):aZ F 123 [dm d,dst s] G=some (.tuple [i64 (lvl d s),i64 (dE d s)],G) :=
 bM rfl rfl (by
  by_cases hd:dE d s=0
  ·simp[wrap64,RX,afc,hd,arX (F7 hd).1.r,lvl]
  ·simp[wrap64,RX,afc,hd,lvl])
theorem atc{u:Un}{s:Us}(hv:fc u s)(q:Int):tL u s q=if km u s q then 0 else 15:=by
 unfold tL;rw[ay (fun h=>h hv.1),ay (fun h=>h hv)];by_cases h:km u s q
 ·rw[aM h,ay (fun g=>g h)]
 ·rw[ay h,aM h]
theorem afe{u:Un}{s:Us}(hv:fc u s)(q:Int)(G:List aS):aZ F 233 [un u,us s,i64 q] G =
  some (.tuple (if km u s q then [us (tM s q),.bool (decide (s.cn=0)&&decide (0<q)),i64 0] else [us ⟨0,0,false⟩,.bool false,i64 15]),G) :=
 bM rfl rfl (by
  have hc:=hv.1;have h1:=hv.2.1;have hf:0≤s.cn:=by
   rcases hv.2.2 with h | ⟨_,h⟩
   ·omega
   ·have:=MN hc h;omega
  have FJ:min (s.since+1) 1000=min 1000 (s.since+1):=by omega
  by_cases hm:km u s q
  ·simp +contextual (disch:=omega) [wrap64,Sz,tK,SW hc,SX hv,hc,hv,hm]
   refine gY (fun h=>?_) (fun h=>?_)
   ·have h':¬ (decide (0<s.cn)=decide (0<q)):=fun e=>by rw[e]at h;simp at h
    unfold tM;rw[ay h'];exact⟨⟨rfl,rfl,rfl⟩,Bool.and_comm _ _⟩
   ·have h':decide (0<s.cn)=decide (0<q):=by
     cases h1:decide (0<s.cn)<;>cases h2:decide (0<q)<;>rw[h1,h2]at h<;>first|rfl|cases h
    unfold tM;rw[aM h'];exact⟨⟨rfl,FJ,rfl⟩,Bool.and_comm _ _⟩
  ·simp +contextual (disch:=omega) [wrap64,Sz,tK,SW hc,SX hv,hc,hv,hm])
structure Dr where
 inf:Int
 los:Int
 tur:Int
 spi:Int
 ovr:Int
 pow:Int
 mX:Int
 deriving Inhabited
abbrev Dr.row(r:Dr):List V:=[i64 r.inf,i64 r.los,i64 r.tur,i64 r.spi,i64 r.ovr,i64 r.pow,i64 r.mX]
abbrev dr(r:Dr):V:=.agg r.row
abbrev wk(d:Dm)(s:Ds)(nv nr:Int)(nu:List Us)(ng:V)(r:Dr)(rel left lv:Int):aS:=.cells
 [iM d.r.c,i64 d.r.d,i64 d.r.l,i64 d.r.f,i64 d.r.s,i64 d.r.t,kJ d.u,kr d.g,i64 d.gr,i64 s.v,i64 s.rel,kn s.u,lC s.g,
  i64 nv,i64 nr,.eF 3 (nu.map Us.row),ng,i64 r.inf,i64 r.los,i64 r.tur,i64 r.spi,i64 r.ovr,i64 r.pow,i64 r.mX,i64 rel,i64 left,i64 lv]
def ku(d:Dm)(left:Int):Int:=max (left-F6 d) 0
theorem TU{r:Rs}(h:iy r=0)(l:Int):0≤iw r.c l∧iw r.c l≤1099511627776:=by
 have hc:=mQ (tP h);have h1:=FG hc l;have hp:=uK (tP h);have h2:=hc.y0 0 hp;have h3:=hc.y0 (r.c.length-1) (by omega)
 omega
theorem Ni{d:Dm}(h:iy d.r=0):0≤F6 d∧F6 d≤1099511627776:=TU h _
theorem Nj{d:Dm}(h:iy d.r=0):0≤ld d∧ld d≤1099511627776:=TU h _
theorem TV{d:Dm}(h:iy d.r=0){s:Ds}{nv nr:Int}{nu:List Us}{ng:V}{r:Dr}{rel left lv:Int}(hl:0≤left∧left≤4611686018427387904) :
  aZ F 231 [.bm 0 0] [wk d s nv nr nu ng r rel left lv]=some (i64 (ku d left),[wk d s nv nr nu ng r rel left lv]) :=
 bM rfl rfl (by
  generalize hW:ku d left=W;have hD:iw d.r.c d.r.d=F6 d:=rfl;have h0:=Ni h;simp (disch:=omega) [wrap64,acZ,ML (mQ (tP h)),hD];exact hW)
theorem Nk{g:Int}:∀{us:List Un} {ss:List Us} {F:List Int},mV g us ss F→∀i,i<us.length→nth F i∈rH (nth us i) (nth ss i) g
 |[],[],[],_=>fun i hi=>by simp at hi
 |u::us,s::ss,q::F,h=>fun i hi=>by
  cases i with
  |zero=>exact h.1
  |succ i=>exact Nk h.2 i (by simpa using hi)
 |[],_::_,_,h=>h.elim
 |[],[],_::_,h=>h.elim
 |_::_,[],_,h=>h.elim
 |_::_,_::_,[],h=>h.elim
theorem JG{us:List Un}{ss:List Us}{g release:Int}(h:kM us ss g release=0):mV g us ss (ij us ss g release)∧(ij us ss g release).sum≤release:=by
 unfold kM at h;split at h
 ·rename_i h1;exact absurd h h1
 split at h
 ·cases h
 rename_i h1 h2;have h1:=g7 h1;obtain⟨h3,h4,_⟩:=Tv h1;have hb:=aeA h3 h4.1;unfold ij;rw[ay (fun g=>g h1)];cases hr:nz (jA us ss g) release with
 |none=>exact absurd hr h2
 |some E =>
  rw[hr]at hb;exact⟨hb.mV,hb.sum⟩
noncomputable def gT(d:Dm)(s:Ds)(m:Int)(i:Nat):Int:=if kM d.u s.u d.gr m=0 then nth (ij d.u s.u d.gr m) i else 0
theorem atd{d:Dm}{s:Ds}{m:Int}{i:Nat}(hi:i<d.u.length):gT d s m i=0∨j8 (nth d.u i) (nth s.u i) (gT d s m i):=by
 unfold gT;split
 ·rename_i h
  exact .inr (FR.1 (Nk (JG h).1 i hi)).2
 ·exact .inl rfl
theorem TW{d:Dm}{s:Ds}{m:Int}{i:Nat}(hi:i<d.u.length):0≤gT d s m i∧gT d s m i≤1073741824:=by
 rcases atd (s:=s) (m:=m) hi with h|h
 ·omega
 ·exact MV h
noncomputable def sZ(u:Un)(s:Us)(q:Int):Us:=if km u s q then tM s q else ⟨0,1,s.out⟩
def dX(f:Nat→Int):Nat→Int
 |0=>0
 |i+1=>dX f i+f i
theorem Nl{f:Nat→Int}{n:Nat}(h:∀i,i<n→0≤f i∧f i≤1073741824):∀i,i≤n→0≤dX f i∧dX f i≤1073741824*i:=by
 intro i;induction i with
 |zero=>intro _;simp[dX]
 |succ i ih=>intro hi;have:=ih (by omega);have:=h i (by omega);simp only[dX];omega
noncomputable def rP(d:Dm)(s:Ds)(m:Int)(i:Nat):Int:=pow (nth d.u i) (gT d s m i)
noncomputable def mX(d:Dm)(s:Ds)(m:Int)(i:Nat):Int:=iO (nth s.u i) (gT d s m i)
noncomputable def pF(d:Dm)(s:Ds)(m:Int)(n:Nat):List Us:=(List.range n).map fun i=>sZ (nth d.u i) (nth s.u i) (gT d s m i)
theorem Nm{d:Dm}{s:Ds}{m:Int}{n:Nat}:(pF d s m n).length=n:=by simp[pF]
theorem DV{d:Dm}{s:Ds}{m:Int}{n:Nat}:pF d s m (n+1)=pF d s m n++[sZ (nth d.u n) (nth s.u n) (gT d s m n)]:=by simp[pF,AX]
def lF(d:Dm)(rel left:Int):Int:=min (min rel (ku d left)) (200*d.gr)
set_option maxHeartbeats 1000000 in
theorem ate{d:Dm}(h:Dv d){s:Ds}(hs:ik d s){nv nr inf los spi ovr rel left lv:Int}{ng:V}(hl:0≤left∧left≤4611686018427387904)(hr:0≤rel∧rel≤1073741824) :
  aZ F 225 [.bm 0 0] [wk d s nv nr [] ng ⟨inf,los,0,spi,ovr,0,0⟩ rel left lv] =
   some (.tuple [],[wk d s nv nr (pF d s (lF d rel left) d.u.length) ng ⟨inf,los,dX (gT d s (lF d rel left)) d.u.length,spi,ovr,dX (rP d s (lF d rel left)) d.u.length,dX (mX d s (lF d rel left)) d.u.length⟩ rel left lv]) :=
 bM rfl rfl (by
  obtain⟨G',hb⟩:=ar5 d.u s.u d.gr (lF d rel left);have hgr:=h.gr;have Jc:min (min rel (ku d left)) (200*d.gr)=lF d rel left:=rfl;have TS:=h.u;have Bu:=hs.2.2.1;have Nn:kM d.u s.u d.gr (lF d rel left)=0→(ij d.u s.u d.gr (lF d rel left)).length=d.u.length:=fun he=>(DM (JG he).1).1;generalize hM:lF d rel left=M at hb Jc Nn;simp (disch:=omega) [wrap64,acT,TV h.r,Jc,hb];refine go_loop (fun i:Nat=>apQ (.bm 0 0) (.slice none 1 ((ij d.u s.u d.gr M).map fun n=>[i64 n])) (kM d.u s.u d.gr M) (kJ d.u) d.u.length i
   [wk d s nv nr (pF d s M i) ng ⟨inf,los,dX (gT d s M) i,spi,ovr,dX (rP d s M) i,dX (mX d s M) i⟩ rel left lv])
   (fun i=>i≤d.u.length) (fun i=>d.u.length-i) 0 rfl (by simp[pF,dX]) (by omega) ?_
  intro i hi;have tH:=Nm (d:=d) (s:=s) (m:=M) (n:=i);have s1:=Nl (f:=gT d s M) (n:=d.u.length) (fun i hi=>TW hi) i hi;have s2:=Nl (f:=rP d s M) (n:=d.u.length) (fun i hi=>MW) i hi;have s3:=Nl (f:=mX d s M) (n:=d.u.length) (fun i hi=>by have:=To (s:=nth s.u i) (q:=gT d s M i);unfold mX;omega) i hi
  simp (disch:=omega) [wrap64,acS];refine bT (fun h5=>?_) (fun h5=>?_)
  ·have h5:i<d.u.length:=by omega
   have uN:i<s.u.length:=by omega
   have hv:fc (nth d.u i) (nth s.u i):=hs.2.2.2.2.1 i h5;have HD:=MW (u:=nth d.u i) (q:=gT d s M i);have tz:=TW (s:=s) (m:=M) h5;by_cases he:kM d.u s.u d.gr M=0
   ·have Nn:=Nn he
    have jk:nth (ij d.u s.u d.gr M) i=gT d s M i:=by simp[gT,he]
    have hm:km (nth d.u i) (nth s.u i) (gT d s M i):=by
     have:=FR.1 (Nk (JG he).1 i h5);rw[jk]at this;exact this.2.2
    have hN:=afe hv (gT d s M i) [];rw[aM hm]at hN;have hP:=Jb (nth d.u i) (gT d s M i) [];generalize hq:gT d s M i=q at *;generalize hp:pow (nth d.u i) q=p at *;simp (config:={ maxSteps:=2000000 }) +contextual (disch:=omega) [-getElem?_pos,-List.length_eq_zero_iff,-Int.natCast_eq_zero,wrap64,bf (l:=d.u),bf (l:=s.u),ei (l:=ij d.u s.u d.gr M),he,jk,hN,hP,tH];have hx:sZ (nth d.u i) (nth s.u i) q=tM (nth s.u i) q:=by simp[sZ,hm]
    refine gY (fun h6=>?_) (fun h6=>?_)
    ·have iz:mX d s M i=1:=by
      simp at h6;simp[mX,iO,hq,h6]
     refine bP (i+1) (by simp[DV,dX,rP,hq,hp,iz,hx]) (by omega) (by omega)
    ·have iz:mX d s M i=0:=by
      have h7:¬ (0<q∧(nth s.u i).cn=0):=fun h=>by rw[jf h.1,jf h.2]at h6;cases h6
      simp only[mX,iO,hq,ay h7]
     refine bP (i+1) (by simp[DV,dX,rP,hq,hp,iz,hx]) (by omega) (by omega)
   ·have hq:gT d s M i=0:=by simp[gT,he]
    have hp:pow (nth d.u i) 0=0:=by simp[pow]
    have iz:mX d s M i=0:=by simp[mX,iO,hq]
    have hN:=afe hv 0 [];have hP:=Jb (nth d.u i) 0 [];rw[hp]at hP;by_cases hm:km (nth d.u i) (nth s.u i) 0
    ·rw[aM hm]at hN
     have hx:sZ (nth d.u i) (nth s.u i) 0=tM (nth s.u i) 0:=by simp[sZ,hm]
     simp only[GJ,decide_false,Bool.and_false]at hN;simp (config:={ maxSteps:=2000000 }) +contextual (disch:=omega) [-getElem?_pos,-List.length_eq_zero_iff,-Int.natCast_eq_zero,wrap64,bf (l:=d.u),bf (l:=s.u),he,hN,hP,tH];refine bP (i+1) (by simp[DV,dX,rP,hq,hp,iz,hx]) (by omega) (by omega)
    ·rw[ay hm]at hN
     have hx:sZ (nth d.u i) (nth s.u i) 0=⟨0,1,(nth s.u i).out⟩:=by simp[sZ,hm]
     simp (config:={ maxSteps:=2000000 }) +contextual (disch:=omega) [-getElem?_pos,-List.length_eq_zero_iff,-Int.natCast_eq_zero,wrap64,bf (l:=d.u),bf (l:=s.u),he,hN,hP,tH];refine bP (i+1) (by simp[DV,dX,rP,hq,hp,iz,hx]) (by omega) (by omega)
  ·obtain rfl:i=d.u.length:=by omega
   simp)
theorem No(g:List Gt)(s:List Gs)(lv w:Int):0≤oK g s lv w∧oK g s lv w≤17179869184:=by
 unfold oK;split
 ·rename_i h
  unfold lD at h;split at h
  ·rename_i h1;exact absurd h h1
  ·rename_i h1
   obtain⟨h1,h2,h3,h4,h5⟩:=Jv (g7 h1);have:=aeY (lv:=lv) (w:=w) h2 h1 h3 h4 (i:=g.length) (bV _);omega
 ·omega
def oa(d:Dm)(rel left t:Int):Int:=min rel (ku d left)-t
noncomputable def JH(d:Dm)(s:Ds)(rel left lv t:Int):Int:=min (oK d.g s.g lv (oa d rel left t)) (ku d left-t)
theorem atg{d:Dm}(h:Dv d){s:Ds}{nv nr inf los tur spi ovr pw st rel left lv:Int}{nu:List Us}{ng:V}(hl:0≤left∧left≤4611686018427387904)(hr:0≤rel∧rel≤1073741824)(ht:0≤tur∧tur≤1099511627776) :
  aZ F 224 [.bm 0 0] [wk d s nv nr nu ng ⟨inf,los,tur,spi,ovr,pw,st⟩ rel left lv] =
   some (.tuple [],[wk d s nv nr nu (.slice none 2 ((pC d.g s.g lv (oa d rel left tur)).map Gs.row)) ⟨inf,los,tur,JH d s rel left lv tur,ovr,pw,st⟩ rel left lv]) :=
 bM rfl rfl (by
  obtain⟨G',hb⟩:=asX d.g s.g lv (oa d rel left tur);have hF:=No d.g s.g lv (oa d rel left tur);have hf:0≤ku d left∧ku d left≤4611686018427387904:=by
   have:=Ni h.r;unfold ku;omega
  have hW:min rel (ku d left)-tur=oa d rel left tur:=rfl;have hS:min (oK d.g s.g lv (oa d rel left tur)) (ku d left-tur)=JH d s rel left lv tur:=rfl;have xk:=TV h.r (s:=s) (nv:=nv) (nr:=nr) (nu:=nu) (ng:=.slice none 2 ((pC d.g s.g lv (oa d rel left tur)).map Gs.row)) (r:=⟨inf,los,tur,spi,ovr,pw,st⟩) (rel:=rel) (left:=left) (lv:=lv) hl;generalize JH d s rel left lv tur=S at hS;generalize oa d rel left tur=W at hS hF hb hW xk;simp (disch:=omega) [wrap64,acR,TV h.r,hW,hb,hS,xk])
theorem ath{d:Dm}(h:Dv d){s:Ds}{nv nr inf los tur spi ovr pw st rel left lv:Int}{nu:List Us}{ng:V}(hl:0≤left∧left≤4611686018427387904)(ht:0≤tur∧tur≤1099511627776)(ia:-1099511627776≤spi∧spi≤1099511627776) :
  aZ F 223 [.bm 0 0] [wk d s nv nr nu ng ⟨inf,los,tur,spi,ovr,pw,st⟩ rel left lv] =
   some (.tuple [],[wk d s (left-(tur+spi)-max (left-(tur+spi)-ld d) 0) (min (tur+spi) 1073741824) nu ng ⟨inf,los,tur,spi,max (left-(tur+spi)-ld d) 0,pw,st⟩ rel (left-(tur+spi)) lv]) :=
 bM rfl rfl (by
  have hC:=Nj h.r;simp (disch:=omega) [wrap64,acQ,afa h.r])
noncomputable def eA(s:Ds)(inf los:Int):Int:=s.v+inf-min los (s.v+inf)
noncomputable def gm(d:Dm)(s:Ds)(inf los rel:Int):Int:=dX (gT d s (lF d rel (eA s inf los))) d.u.length
noncomputable def mh(d:Dm)(s:Ds)(inf los rel:Int):Int:=JH d s rel (eA s inf los) (j7 d.r s.v) (gm d s inf los rel)
noncomputable def tV(d:Dm)(s:Ds)(inf los rel:Int):Int:=max (eA s inf los-(gm d s inf los rel+mh d s inf los rel)-ld d) 0
noncomputable def mi(d:Dm)(s:Ds)(inf los rel:Int):Dr:=⟨inf,min los (s.v+inf),gm d s inf los rel,mh d s inf los rel,tV d s inf los rel,dX (rP d s (lF d rel (eA s inf los))) d.u.length,dX (mX d s (lF d rel (eA s inf los))) d.u.length⟩
noncomputable def mB(d:Dm)(s:Ds)(inf los rel:Int):Ds:=⟨eA s inf los-(gm d s inf los rel+mh d s inf los rel)-tV d s inf los rel,min (gm d s inf los rel+mh d s inf los rel) 1073741824,
 pF d s (lF d rel (eA s inf los)) d.u.length,pC d.g s.g (j7 d.r s.v) (oa d rel (eA s inf los) (gm d s inf los rel))⟩
theorem aff{d:Dm}(h:Dv d){s:Ds}{inf los rel:Int}:0≤gm d s inf los rel∧gm d s inf los rel≤6442450944:=by
 have h1:=Nl (f:=gT d s (lF d rel (eA s inf los))) (n:=d.u.length) (fun i hi=>TW hi) d.u.length (bV _);have h2:=h.u;unfold gm;omega
theorem TX{C:bD}{args:List V}{f:FuncId}{fs:List FuncId}{G G':List aS}{r:V}{o:Option (List aS)}(h1:C f args G=some (r,G'))(h2:qm C args fs G'=o):qm C args (f::fs) G=o:=by
 simp only[qm,h1,h2]
abbrev wk0(d:Dm)(s:Ds)(inf los rel lv:Int):aS:=.cells
 [iM d.r.c,i64 d.r.d,i64 d.r.l,i64 d.r.f,i64 d.r.s,i64 d.r.t,kJ d.u,kr d.g,i64 d.gr,i64 s.v,i64 s.rel,kn s.u,lC s.g,
  i64 0,i64 0,.eF 3 [],.eF 2 [],i64 inf,i64 los,i64 0,i64 0,i64 0,i64 0,i64 0,i64 rel,i64 0,i64 lv]
theorem ati{d:Dm}(h:Dv d){s:Ds}(hs:ik d s){inf los rel:Int}(hi:0≤inf∧inf≤1073741824)(hl:0≤los∧los≤1073741824)(hr:0≤rel∧rel≤1073741824) :
  ∃lf,aZ F 217 [.bm 0 0] [wk0 d s inf los rel (j7 d.r s.v)] =
   some (.tuple [],[wk d s (mB d s inf los rel).v (mB d s inf los rel).rel (mB d s inf los rel).u (.slice none 2 ((mB d s inf los rel).g.map Gs.row)) (mi d s inf los rel) rel lf (j7 d.r s.v)]):=by
 suffices hh:∀Q:V→List aS→Prop,(∀lf,Q (.tuple []) [wk d s (mB d s inf los rel).v (mB d s inf los rel).rel (mB d s inf los rel).u (.slice none 2 ((mB d s inf los rel).g.map Gs.row)) (mi d s inf los rel) rel lf (j7 d.r s.v)])→gA (aZ F) 217 [.bm 0 0] [wk0 d s inf los rel (j7 d.r s.v)] Q by
  obtain⟨_,G',h,lf,rfl,rfl⟩:=hh (fun v G'=>∃lf,v=.tuple []∧G'=[wk d s (mB d s inf los rel).v (mB d s inf los rel).rel (mB d s inf los rel).u (.slice none 2 ((mB d s inf los rel).g.map Gs.row)) (mi d s inf los rel) rel lf (j7 d.r s.v)]) fun lf=>⟨lf,rfl,rfl⟩;exact⟨lf,h⟩
 intro Q hQ;refine akw rfl rfl ?_;have hv:=hs.1;have hC:=Nj h.r;simp (disch:=omega) [wrap64,acH];have hL:0≤eA s inf los∧eA s inf los≤4611686018427387904:=by unfold eA;omega
 have hT:=aff h (s:=s) (inf:=inf) (los:=los) (rel:=rel);have hP:-1099511627776≤mh d s inf los rel∧mh d s inf los rel≤1099511627776:=by
  have h1:=No d.g s.g (j7 d.r s.v) (oa d rel (eA s inf los) (gm d s inf los rel));have h2:0≤ku d (eA s inf los):=by unfold ku;omega
  unfold mh JH;omega
 have h1:=ate h hs (nv:=0) (nr:=0) (inf:=inf) (los:=min los (s.v+inf)) (spi:=0) (ovr:=0) (rel:=rel) (left:=eA s inf los) (lv:=j7 d.r s.v) (ng:=.eF 2 []) hL hr;have h2:=atg h (s:=s) (nv:=0) (nr:=0) (nu:=pF d s (lF d rel (eA s inf los)) d.u.length) (ng:=.eF 2 []) (inf:=inf) (los:=min los (s.v+inf)) (tur:=gm d s inf los rel) (spi:=0) (ovr:=0)
  (pw:=dX (rP d s (lF d rel (eA s inf los))) d.u.length) (st:=dX (mX d s (lF d rel (eA s inf los))) d.u.length) (rel:=rel) (left:=eA s inf los) (lv:=j7 d.r s.v) hL hr (by omega)
 have h3:=ath h (s:=s) (nv:=0) (nr:=0) (nu:=pF d s (lF d rel (eA s inf los)) d.u.length) (ng:=.slice none 2 ((pC d.g s.g (j7 d.r s.v) (oa d rel (eA s inf los) (gm d s inf los rel))).map Gs.row)) (inf:=inf) (los:=min los (s.v+inf)) (tur:=gm d s inf los rel) (spi:=mh d s inf los rel) (ovr:=0)
  (pw:=dX (rP d s (lF d rel (eA s inf los))) d.u.length) (st:=dX (mX d s (lF d rel (eA s inf los))) d.u.length) (rel:=rel) (left:=eA s inf los) (lv:=j7 d.r s.v) hL (by omega) hP
 exact⟨_,TX h1 (TX h2 (TX h3 rfl)),hQ _⟩
theorem atj(n:Int)(G:List aS):aZ F 216 [i64 n] G=some (.bool (!decide (0≤n∧n≤1073741824)),G) :=
 bM rfl rfl (by
  simp[wrap64,acG,dJ])
theorem atk(l:List Int)(hl:l.length≤1000)(p:Int→Bool)(f:FuncId)(G:List aS)(h:∀n,aZ F f [i64 n] G=some (.bool (p n),G)) :
  ∃k:Int,(decide (0≤k)=l.any p)∧aZ F 108 [ints l,.fn f []] G=some (i64 k,G):=by
 suffices hh:∀Q:V→List aS→Prop,(∀k:Int,decide (0≤k)=l.any p→Q (i64 k) G)→gA (aZ F) 108 [ints l,.fn f []] G Q by
  obtain⟨_,G',h,k,h1,rfl,rfl⟩:=hh (fun v G'=>∃k:Int,decide (0≤k)=l.any p∧v=i64 k∧G'=G) fun k hk=>⟨k,hk,rfl,rfl⟩;exact⟨k,h1,h⟩
 intro Q hQ;refine gM rfl rfl ?_;simp (disch:=omega) [-getElem?_pos,wrap64,aaV];refine go_loop (fun i:Nat=>anT (ints l) (.fn f []) l.length i G) (fun i=>i≤l.length∧∀x∈l.take i,p x=false) (fun i=>l.length-i) 0 rfl (by simp) ⟨by omega,by simp⟩ ?_
 rintro i ⟨hi,hp⟩;simp (disch:=omega) [-getElem?_pos,wrap64,aaU];refine bT (fun h5=>?_) (fun h5=>?_)
 ·have h5:i<l.length:=by omega
  simp (disch:=omega) [-getElem?_pos,wrap64,ei (l:=l),h];refine gY (fun h6=>?_) (fun h6=>?_)
  ·refine hQ _ ?_
   rw[jf (by omega)]
   exact(GO.2 ⟨_,sX h5,h6⟩).symm
  ·refine bP (i+1) (by simp) ⟨by omega,?_⟩ (by omega)
   intro x hx;rw[kq h5]at hx;rcases ot.1 hx with hx|hx
   ·exact hp x hx
   ·rw[ou.1 hx];exact h6
 ·obtain rfl:i=l.length:=by omega
  refine hQ _ ?_;rw[na]at hp;rw[show l.any p=false from nF.2 fun x hx=>by rw[hp x hx];simp]
  rfl
theorem Np(l:List Int)(hl:l.length≤1000)(p:Int→Bool)(f:FuncId)(G:List aS)(h:∀n,aZ F f [i64 n] G=some (.bool (p n),G)) :
  aZ F 63 [ints l,.fn f []] G=some (.bool (l.any p),G) :=
 bM rfl rfl (by
  obtain⟨k,h1,h2⟩:=atk l hl p f G h;simp[wrap64,aah,h2];exact h1)
def yS(n:Int):Bool:=!decide (0≤n∧n≤1073741824)
noncomputable def oL(d:Dm)(s:Ds)(inf los rel:Int):Int:=if dE d s≠0 then dE d s else if [inf,los,rel].any yS then 1 else 0
noncomputable def tW(d:Dm)(s:Ds)(inf los rel:Int):V:=.tuple (if oL d s inf los rel=0 then [dst (mB d s inf los rel),dr (mi d s inf los rel),i64 0] else [.agg [i64 0,i64 0,.slice (some 0) 3 [],.slice (some 0) 2 []],dr ⟨0,0,0,0,0,0,0⟩,i64 (oL d s inf los rel)])
theorem atl(d:Dm)(s:Ds)(inf los rel:Int):∃G',aZ F 201 [dm d,dst s,i64 inf,i64 los,i64 rel] []=some (tW d s inf los rel,G'):=by
 suffices h:∀Q:V→List aS→Prop,(∀G',Q (tW d s inf los rel) G')→gA (aZ F) 201 [dm d,dst s,i64 inf,i64 los,i64 rel] [] Q by
  obtain⟨_,G',h,rfl⟩:=h (fun v G'=>v=tW d s inf los rel) fun _=>rfl;exact⟨G',h⟩
 intro Q hQ;refine gM rfl rfl ?_;have hc:aZ F 63 [.slice none 1 [[i64 inf],[i64 los],[i64 rel]],.fn 216 []] []=some (.bool ([inf,los,rel].any yS),[]) :=
  Np [inf,los,rel] (by simp) yS 216 [] (fun n=>atj n [])
 unfold tW oL at hQ;generalize hx:[inf,los,rel].any yS=x at hc hQ;by_cases hd:dE d s=0
 ·obtain⟨rQ,E8⟩:=F7 hd
  have yn:lvl d s=j7 d.r s.v:=by simp[lvl,hd]
  simp only[hd,ne_eq,not_true_eq_false,if_false]at hQ;cases x with
  |true =>
   simp only[if_true,ay (show ¬ (1:Int)=0 by omega)]at hQ
   simp[wrap64,Mu,Nh,hd,yn,hc];exact hQ _
  |false =>
   simp only[yS,GN,GP,GH,Ol,VG,iD]at hx;obtain⟨lf,hr⟩:=ati rQ E8 hx.1 hx.2.1 hx.2.2;simp[wrap64,Mu,Nh,hd,yn,hc,hr];exact hQ _
 ·simp only[hd,ne_eq,not_false_eq_true,if_true,if_false]at hQ
  simp[wrap64,Mu,Nh,hd];exact hQ _
end Go.Proofs.YtmppfkgfnnebeaaGreatDoor
namespace Go.Proofs.YtmppfkgfnnebeaaGreatDoor
set_option linter.all false
open Go.Vm Go.Chs
theorem atm{l:List Cd}{n:Nat}(hn:n=l.length)(mT:n≤19)(A B C:aS) :
  aZ F 210 [.c5 4 1 n,.fn 211 [.bm 3 0]] [A,B,C,.cells [g5 l],.cells (nc (List.range n))]=some (.tuple [],[A,B,C,.cells [g5 l],.cells (nc (kK (iW l) (List.range n)))]):=by
 have h1:aZ F 219 [.c5 4 1 n,i64 (n:Int),.fn 211 [.bm 3 0]] [A,B,C,.cells [g5 l],.cells (nc (List.range n))]=some (.tuple [],[A,B,C,.cells [g5 l],.cells (nc (kK (iW l) (List.range n)))]) :=
  bM rfl rfl (by
   have h2:=arP hn mT A B C;have h3:¬ (20:Int)≤n:=by omega
   have h4:¬ (20:Int)<n:=by omega
   simp[wrap64,acM];rw[acJ,vX];simp[wrap64,acI,h3,h2];rw[acL,vX];simp[wrap64,acK,h4])
 exact bM rfl rfl (by simp[wrap64,acD,h1])
theorem atn{l:List Nat}:(l.map ((fun n=>[V.int .i64 n])∘fun k:Nat=>(k:Int))).flatten=nc l:=by rw[←wG];exact arM
theorem ato{l:List Cd}(mT:l.length≤19)(A B C:aS) :
  aZ F 189 [g5 l] [A,B,C]=some (.c5 4 1 l.length,[A,B,C,.cells [g5 l],.cells (nc (kK (iW l) (List.range l.length)))]) :=
 bM rfl rfl (by
  have h1:=atm (l:=l) rfl mT A B C;simp (disch:=omega) [wrap64,acg];refine go_loop (fun i:Nat=>apl (.bm 3 0) i l.length i (nc (List.range i)) [A,B,C,.cells [g5 l]]) (fun i=>i≤l.length) (fun i=>l.length-i) 0 rfl (by simp[arJ]) (by omega) ?_
  rintro i hi;simp (disch:=omega) [wrap64,acf];refine bT (fun h=>?_) (fun h=>?_)
  ·have h:i<l.length:=by omega
   have h':(i:Nat)≤4294967295:=by omega
   simp (disch:=omega) [wrap64,arK,h'];exact bP (i+1) (by simp) (by omega) (by omega)
  ·obtain rfl:i=l.length:=by omega
   simp (disch:=omega) [wrap64,arL (l:=List.range l.length) (n:=l.length) (by simp),atn,h1])
def AD(l:List Cd)(day level:Int)(fl:List Int):Int:=if tJ l≠0 then tJ l else if (gZ day 364&&gZ level 16777216&&fl.all fun n=>gZ n 1073741824)=true then 0 else 1
theorem TY(l:List Cd)(day level:Int)(fl:List Int)(hf:fl.length≤1000)(G:List aS):aZ F 154 [g5 l,i64 day,i64 level,ints fl] G=some (i64 (AD l day level fl),G) :=
 bM rfl rfl (by
  generalize hW:AD l day level fl=W;unfold AD at hW;have w0:=adF l;have w1:=MG day;have w2:=DA level 16777216;have w3:=fun G=>Np fl hf (fun n => !gZ n 1073741824) 187 G fun n=>bM rfl rfl (by simp[wrap64,acd,DA])
  by_cases h0:tJ l=0
  case neg =>
   rw[aM h0]at hW;have JI:(tJ l != 0)=true:=by simpa using h0
   simp[wrap64,FD,w0,JI];exact hW
  rw[ay (fun g=>g h0)]at hW;cases e1:gZ day 364<;>rw[e1]at w1 hW
  ·rw[ay (by simp)]at hW
   simp[wrap64,FD,w0,h0,w1];exact hW
  cases e2:gZ level 16777216<;>rw[e2]at w2 hW
  ·rw[ay (by simp)]at hW
   simp[wrap64,FD,w0,h0,w1,w2];exact hW
  have e4:(fl.any fun n => !gZ n 1073741824) = !(fl.all fun n=>gZ n 1073741824):=by rw[List.not_all_eq_any_not]
  rw[e4]at w3;cases e3:(fl.all fun n=>gZ n 1073741824)<;>rw[e3]at w3 hW
  ·rw[ay (by simp)]at hW
   simp[wrap64,FD,w0,h0,w1,w2,w3];exact hW
  ·rw[aM (by simp)]at hW
   simp[wrap64,FD,w0,h0,w1,w2,w3];exact hW)
end Go.Proofs.YtmppfkgfnnebeaaGreatDoor

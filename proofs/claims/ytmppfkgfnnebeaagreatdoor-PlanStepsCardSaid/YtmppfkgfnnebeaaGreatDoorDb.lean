/- Parts of the proof. -/
import Derived.Test.YtmppfkgfnnebeaaGreatDoorDa
namespace Go.Proofs.YtmppfkgfnnebeaaGreatDoor
set_option linter.all false
open Go.Vm
attribute [local simp] lZ l7 lX lY
theorem sN{α:Type}[Inhabited α]{l:List α}{i:Nat}(h:i<l.length):l.drop i=nth l i::l.drop (i+1):=by
 rw[Ki h];simp[nth,List.getD,h]
def gH:List Int→List Int→Int
 |[],[]=>0
 |[],_::_ => -1
 |_::_,[]=>1
 |a::p,b::q=>if a<b then -1 else if b<a then 1 else gH p q
theorem Tg(a:Int)(G:List aS):aZ F 220 [i64 a] G=some (.bool false,G) :=
 bM rfl rfl (by simp[wrap64,acN])
theorem MQ(a b:Int)(G:List aS):aZ F 212 [i64 a,i64 b] G=some (i64 (if a<b then -1 else if b<a then 1 else 0),G) :=
 bM rfl rfl (by
  by_cases h1:a<b
  ·simp[wrap64,Mv,Tg,h1]
  ·by_cases h2:b<a
   ·simp[wrap64,Mv,Tg,h1,h2]
   ·simp[wrap64,Mv,Tg,h1,h2])
theorem ari(p q:List Int)(hp:p.length≤4294967296)(G:List aS):aZ F 253 [ints p,ints q] G=some (i64 (gH p q),G) :=
 bM rfl rfl (by
  generalize hW:gH p q=W;simp (disch:=omega) [-getElem?_pos,wrap64,ado];refine go_loop (fun i:Nat=>aqt (ints p) (ints q) (ints p) p.length i G) (fun i=>i≤p.length∧i≤q.length∧gH (p.drop i) (q.drop i)=W) (fun i=>p.length-i) 0 rfl (by simp) ⟨by omega,by omega,by simpa using hW⟩ ?_
  rintro i ⟨h1,h2,h3⟩;simp (disch:=omega) [-getElem?_pos,wrap64,adn];refine bT (fun h4=>?_) (fun h4=>?_)
  ·have h4:i<p.length:=by omega
   rw[sN h4]at h3;by_cases h5:i<q.length
   ·rw[sN h5,gH]at h3
    have h6:¬q.length≤i:=by omega
    by_cases h7:nth p i<nth q i
    ·rw[aM h7]at h3
     simp (disch:=omega) [-getElem?_pos,wrap64,ei,MQ,h6,h7];exact h3
    ·rw[ay h7]at h3
     by_cases h8:nth q i<nth p i
     ·rw[aM h8]at h3
      simp (disch:=omega) [-getElem?_pos,wrap64,ei,MQ,h6,h7,h8];exact h3
     ·rw[ay h8]at h3
      simp (disch:=omega) [-getElem?_pos,wrap64,ei,MQ,h6,h7,h8];exact bP (i+1) (by simp) ⟨by omega,by omega,h3⟩ (by omega)
   ·obtain rfl:i=q.length:=by omega
    rw[AV,gH]at h3;simp (disch:=omega) [-getElem?_pos,wrap64,ei];exact h3
  ·obtain rfl:i=p.length:=by omega
   rw[AV]at h3;refine bT (fun h5=>?_) (fun h5=>?_)
   ·have h6:p.length<q.length:=by omega
    rw[sN h6,gH]at h3;exact h3
   ·obtain h6:q.drop p.length=[]:=VJ.2 (by omega)
    rw[h6,gH]at h3;exact h3)
abbrev MR(a:Int×Int):V:=.agg [i64 a.1,i64 a.2]
def ko(a b:Int×Int)(p q:List Int):Prop:=if a.1≠b.1 then b.1<a.1 else if a.2≠b.2 then a.2<b.2 else gH p q<0
instance {a b:Int×Int} {p q:List Int}:Decidable (ko a b p q):=by unfold ko;infer_instance
theorem arj(a b:Int×Int)(p q:List Int)(hp:p.length≤4294967296)(G:List aS):aZ F 246 [MR a,MR b,ints p,ints q] G=some (.bool (decide (ko a b p q)),G) :=
 bM rfl rfl (by
  generalize hW:decide (ko a b p q)=W;simp only[ko]at hW;obtain⟨a1,a2⟩:=a;obtain⟨b1,b2⟩:=b;simp only at hW;by_cases h1:a1=b1
  ·by_cases h2:a2=b2
   ·simp[wrap64,MB,ari p q hp,h1,h2]
    simpa [h1,h2] using hW
   ·simp[wrap64,MB,h1,h2]
    simpa [h1,h2] using hW
  ·simp[wrap64,MB,h1]
   simpa [h1] using hW)
theorem ark(p q:List Int)(hp:p.length≤4294967296)(G:List aS):aZ F 208 [ints p,ints q] G=some (.bool (decide (gH p q<0)),G) :=
 bM rfl rfl (by
  generalize hW:gH p q=W;simp (disch:=omega) [-getElem?_pos,wrap64,acB];refine go_loop (fun i:Nat=>apJ (ints p) (ints q) p.length i G) (fun i=>i≤p.length∧i≤q.length∧gH (p.drop i) (q.drop i)=W) (fun i=>p.length-i) 0 rfl (by simp) ⟨by omega,by omega,by simpa using hW⟩ ?_
  rintro i ⟨h1,h2,h3⟩;simp (disch:=omega) [-getElem?_pos,wrap64,acA];refine bT (fun h4=>?_) (fun h4=>?_)
  ·have h4:i<p.length:=by omega
   rw[sN h4]at h3;by_cases h5:i<q.length
   ·rw[sN h5,gH]at h3
    have h6:¬q.length≤i:=by omega
    by_cases h7:nth p i<nth q i
    ·rw[aM h7]at h3
     have h9:¬nth p i=nth q i:=by omega
     subst h3;simp (disch:=omega) [-getElem?_pos,wrap64,ei,h6,h7,h9,h5]
    ·rw[ay h7]at h3
     by_cases h8:nth q i<nth p i
     ·rw[aM h8]at h3
      have h9:¬nth p i=nth q i:=by omega
      subst h3;simp (disch:=omega) [-getElem?_pos,wrap64,ei,h6,h7,h9,h5]
     ·rw[ay h8]at h3
      have h9:nth p i=nth q i:=by omega
      simp (disch:=omega) [-getElem?_pos,wrap64,ei,h6,h9,h5];exact bP (i+1) (by simp) ⟨by omega,by omega,h3⟩ (by omega)
   ·obtain rfl:i=q.length:=by omega
    rw[AV,gH]at h3;subst h3;simp (disch:=omega) [-getElem?_pos,wrap64,ei]
  ·obtain rfl:i=p.length:=by omega
   rw[AV]at h3;by_cases h6:p.length<q.length
   ·rw[sN h6,gH]at h3
    subst h3;simp[h6]
   ·have h7:q.drop p.length=[]:=VJ.2 (by omega)
    rw[h7,gH]at h3;subst h3;simp;omega)
theorem adV(a b:Int×Int)(p q:List Int)(hp:p.length≤4294967296)(G:List aS):aZ F 180 [MR a,MR b,ints p,ints q] G=some (.bool (decide (ko a b p q)),G) :=
 bM rfl rfl (by
  generalize hW:decide (ko a b p q)=W;simp only[ko]at hW;obtain⟨a1,a2⟩:=a;obtain⟨b1,b2⟩:=b;simp only at hW;by_cases h1:a1=b1
  ·by_cases h2:a2=b2
   ·simp[wrap64,Mt,ark p q hp,h1,h2]
    simpa [h1,h2] using hW
   ·simp[wrap64,Mt,h1,h2]
    simpa [h1,h2] using hW
  ·simp[wrap64,Mt,h1]
   simpa [h1] using hW)
end Go.Proofs.YtmppfkgfnnebeaaGreatDoor
namespace Go.Vm
set_option linter.all false
end Go.Vm
namespace Go.Chs
set_option linter.all false
open Go.Vm
structure Ch where
 lo:Int
 hi:Int
 lb:Int
 hb:Int
 ys:List (Nat×Int)
 up:Bool
def sO(b:Nat→Int×Int)(c:Ch)(i:Nat):Ch :=
 if (b i).2<c.lo then { c with ys:=c.ys++[(i,c.lb)] }
 else if c.hi<(b i).1 then { c with ys:=c.ys++[(i,c.hb)],up:=c.up || c.ys.isEmpty }
 else { c with lo:=max (b i).1 c.lo,lb:=if max (b i).1 c.lo=c.lo then c.lb else i,hi:=min (b i).2 c.hi,hb:=if min (b i).2 c.hi=c.hi then c.hb else i }
def nq(b:Nat→Int×Int)(A:List Nat)(c:Ch):Ch:=A.foldl (sO b) c
def sQ(lo hi:Int):Ch:=⟨lo,hi,-1,-1,[],false⟩
def BQ(w lo hi:Int):Int:=if w<lo then lo else if hi<w then hi else w
def mA(c:Ch)(w:Int):Int:=if c.ys=[] then BQ w c.lo c.hi else if c.up then c.hi else c.lo
def out(b:Nat→Int×Int)(c:Ch)(i:Nat):Bool:=decide ((b i).2<c.lo∨c.hi<(b i).1)
structure Inv(b:Nat→Int×Int)(nx ny:Int)(P:List Nat)(c:Ch):Prop where
 a:nx≤c.lo
 m:c.lo≤c.hi
 z:c.hi≤ny
 ys:c.ys.map (·.1)=P.filter (out b c)
 Jf:∀i∈P,out b c i=false→(b i).1≤c.lo∧c.hi≤(b i).2
 lb:c.lb = -1∨∃j∈P,c.lb=(j:Nat)∧out b c j=false
 hb:c.hb = -1∨∃j∈P,c.hb=(j:Nat)∧out b c j=false
 MS:∀(k i:Nat) (y:Int),c.ys[k]?=some (i,y)→y = -1∨∃(j:Nat) (p q:Nat),y=(j:Int)∧out b c j=false∧P[p]?=some j∧P[q]?=some i∧p<q
theorem arl{b:Nat→Int×Int}{lo hi:Int}(h:lo≤hi):Inv b lo hi [] (sQ lo hi) :=
 ⟨uc _,h,uc _,rfl,fun i hi=>(by cases hi),.inl rfl,.inl rfl,fun k i y h=>by simp[sQ]at h⟩
theorem K5{b:Nat→Int×Int}(hb:∀i,(b i).1≤(b i).2){nx ny:Int}{P:List Nat}{c:Ch}(h:Inv b nx ny P c)(i:Nat):Inv b nx ny (P++[i]) (sO b c i):=by
 have P8:=hb i;obtain⟨a,m,z,ys,Jf,lb,Th,MS⟩:=h;have ext:∀(k:Nat) j,P[k]?=some j→(P++[i])[k]?=some j:=fun k j hk=>by
  rw[nG (wE.1 hk).1];exact hk
 have last:(P++[i])[P.length]?=some i:=by simp
 have kA:∀c':Ch,c'.lo=c.lo→c'.hi=c.hi→out b c'=out b c:=fun c' e1 e2=>by funext j;simp[out,e1,e2]
 have yld:∀(x:Int) (u:Bool),out b c i=true→(x = -1∨∃j∈P,x=(j:Nat)∧out b c j=false)→Inv b nx ny (P++[i]) { c with ys:=c.ys++[(i,x)],up:=u }:=fun x u ho hx=>by
  have e:=kA { c with ys:=c.ys++[(i,x)],up:=u } rfl rfl;refine⟨a,m,z,?_,?_,?_,?_,?_⟩
  ·rw[e];simp[ys,uZ,ho]
  ·rw[e]
   intro j hj hn;rcases ot.1 hj with hj|hj
   ·exact Jf j hj hn
   ·rw[ou.1 hj,ho]at hn;cases hn
  ·rw[e]
   exact lb.imp id fun⟨j,h1,h2⟩=>⟨j,Cl _ h1,h2⟩
  ·rw[e]
   exact Th.imp id fun⟨j,h1,h2⟩=>⟨j,Cl _ h1,h2⟩
  ·rw[e]
   intro k i' y hk;simp only at hk;rw[oQ]at hk;split at hk
   ·exact(MS k i' y hk).imp id fun⟨j,p,q,h1,h2,h3,h4,h5⟩=>⟨j,p,q,h1,h2,ext _ _ h3,ext _ _ h4,h5⟩
   ·rename_i bE
    have z7:k-c.ys.length=0:=by
     rcases mq (k-c.ys.length) with g|g
     ·exact g
     ·rw[jT (by simp;omega)]at hk;cases hk
    rw[z7]at hk;simp at hk;obtain⟨rfl,rfl⟩:=hk;refine hx.imp id fun⟨j,h1,h2,h3⟩=>?_;obtain⟨p,hp⟩:=nH.1 h1;exact⟨j,p,P.length,h2,h3,ext _ _ hp,last,(wE.1 hp).1⟩
 unfold sO;split
 ·rename_i h1
  exact yld c.lb c.up (by simp[out,h1]) lb
 ·rename_i h1
  split
  ·rename_i h2
   exact yld c.hb _ (by simp[out,h2]) Th
  ·rename_i h2
   generalize qV:({ c with lo:=max (b i).1 c.lo,lb:=if max (b i).1 c.lo=c.lo then c.lb else i,hi:=min (b i).2 c.hi,hb:=if min (b i).2 c.hi=c.hi then c.hb else i }:Ch)=c'
   have DE:c'.lo=max (b i).1 c.lo:=by rw[←qV]
   have DF:c'.hi=min (b i).2 c.hi:=by rw[←qV]
   have eys:c'.ys=c.ys:=by rw[←qV]
   have elb:c'.lb=if max (b i).1 c.lo=c.lo then c.lb else i:=by rw[←qV]
   have ehb:c'.hb=if min (b i).2 c.hi=c.hi then c.hb else i:=by rw[←qV]
   have Ti:out b c' i=false:=by simp only[out,DE,DF,decide_eq_false_iff_not];omega
   have keep:∀j∈P,out b c' j=out b c j:=fun j hj=>by
    have hbj:=hb j;cases ho:out b c j with
    |true =>
     simp only[out,iD]at ho ⊢;rw[DE,DF];omega
    |false =>
     obtain⟨q1,q2⟩:=Jf j hj ho;simp only[out,decide_eq_false_iff_not]at ho ⊢;rw[DE,DF];omega
   refine⟨by rw[DE];omega,by rw[DE,DF];omega,by rw[DF];omega,?_,?_,?_,?_,?_⟩
   ·rw[eys,ys,uZ,Kj,Ti]
    simp only[D9,if_false,List.filter_nil,Eb];exact(GQ keep).symm
   ·intro j hj hn
    rcases ot.1 hj with hj|hj
    ·rw[keep j hj]at hn
     obtain⟨q1,q2⟩:=Jf j hj hn;rw[DE,DF];omega
    ·rw[ou.1 hj,DE,DF];omega
   ·rw[elb]
    split
    ·exact lb.imp id fun⟨j,h1,h2,h3⟩=>⟨j,Cl _ h1,h2,by rw[keep j h1];exact h3⟩
    ·exact .inr ⟨i,by simp,rfl,Ti⟩
   ·rw[ehb]
    split
    ·exact Th.imp id fun⟨j,h1,h2,h3⟩=>⟨j,Cl _ h1,h2,by rw[keep j h1];exact h3⟩
    ·exact .inr ⟨i,by simp,rfl,Ti⟩
   ·rw[eys]
    intro k i' y hk;exact(MS k i' y hk).imp id fun⟨j,p,q,h1,h2,h3,h4,h5⟩=>⟨j,p,q,h1,by rw[keep j (fW h3)];exact h2,ext _ _ h3,ext _ _ h4,h5⟩
theorem adY{b:Nat→Int×Int}(hb:∀i,(b i).1≤(b i).2){nx ny:Int}:∀(A:List Nat) {P:List Nat} {c:Ch},Inv b nx ny P c→Inv b nx ny (P++A) (nq b A c)
 |[],P,c,h=>by simpa [nq] using h
 |i::A,P,c,h=>by
  have:=adY hb A (K5 hb h i);rw[uW]at this;exact this
theorem arp{b:Nat→Int×Int}(hb:∀i,(b i).1≤(b i).2){lo hi:Int}(h:lo≤hi)(A:List Nat):Inv b lo hi A (nq b A (sQ lo hi)):=adY hb A (arl h)
theorem Tj{b:Nat→Int×Int}{nx ny:Int}{P:List Nat}{c:Ch}(h:Inv b nx ny P c)(w:Int):c.lo≤mA c w∧mA c w≤c.hi:=by
 have:=h.m;unfold mA BQ
 repeat' split
 all_goals omega
def keeps(b:Nat→Int×Int)(r:Int)(i:Nat):Bool:=decide ((b i).1≤r)&&decide (r≤(b i).2)
theorem ars{b:Nat→Int×Int}{nx ny:Int}{P:List Nat}{c:Ch}(h:Inv b nx ny P c){r:Int}(h1:c.lo≤r)(h2:r≤c.hi){i:Nat}(hi:i∈P):keeps b r i = !out b c i:=by
 have hm:=h.m;cases ho:out b c i with
 |true =>
  simp only[out,iD]at ho;simp only[keeps,Oj,Bool.and_eq_false_iff,decide_eq_false_iff_not];omega
 |false =>
  obtain⟨q1,q2⟩:=h.Jf i hi ho;simp only[keeps,Oi,bS,iD];omega
theorem art{b:Nat→Int×Int}{nx ny:Int}{P:List Nat}{c:Ch}(h:Inv b nx ny P c){r:Int}(h1:c.lo≤r)(h2:r≤c.hi):P.filter (fun i => !keeps b r i)=c.ys.map (·.1):=by
 rw[h.ys];refine GQ fun i hi=>?_;rw[ars h h1 h2 hi,Bool.not_not]
def rC(rk:Nat→Int)(x:Nat):List Nat→List Nat
 |[]=>[x]
 |y::ys=>if rk x<rk y then x::y::ys else y::rC rk x ys
def kK(rk:Nat→Int)(l:List Nat):List Nat:=l.foldl (fun o x=>rC rk x o) []
def Ord(rk:Nat→Int)(a b:Nat):Prop:=rk a<rk b∨rk a=rk b∧a<b
theorem Tk{rk:Nat→Int}{x z:Nat}:∀{l:List Nat},z∈rC rk x l↔z=x∨z∈l
 |[]=>by simp[rC]
 |y::ys=>by
  unfold rC;split
  ·simp
  ·simp[Tk (l:=ys)]
   constructor
   ·rintro (h|h|h)<;>simp[h]
   ·rintro (h|h|h)<;>simp[h]
theorem adZ{rk:Nat→Int}{x:Nat}:∀{l:List Nat},l.Pairwise (Ord rk)→(∀y∈l,y<x)→(rC rk x l).Pairwise (Ord rk)
 |[],_,_=>by simp[rC]
 |y::ys,h,hx=>by
  obtain⟨h1,h2⟩:=te.1 h;have hyx:=hx y (by simp)
  unfold rC;split
  ·rename_i bE
   refine te.2 ⟨fun z hz=>?_,h⟩;rcases jB.1 hz with rfl|hz
   ·exact .inl bE
   ·rcases h1 z hz with g | ⟨g,_⟩
    ·exact .inl (by omega)
    ·exact .inl (by omega)
  ·rename_i bE
   refine te.2 ⟨fun z hz=>?_,adZ h2 fun y hy=>hx y (by simp[hy])⟩
   rcases Tk.1 hz with rfl|hz
   ·by_cases e:rk y=rk z
    ·exact .inr ⟨e,hyx⟩
    ·exact .inl (by omega)
   ·exact h1 z hz
theorem ad0{rk:Nat→Int}{l:List Nat}{x:Nat}:kK rk (l++[x])=rC rk x (kK rk l):=by simp[kK]
theorem FL{rk:Nat→Int}:∀n:Nat,(kK rk (List.range n)).Pairwise (Ord rk)∧∀z,z∈kK rk (List.range n)↔z<n
 |0=>by simp[kK]
 |n+1=>by
  obtain⟨h1,h2⟩:=FL (rk:=rk) n;rw[AX,ad0];refine⟨adZ h1 fun y hy=>(h2 y).1 hy,fun z=>?_⟩;rw[Tk,h2];omega
theorem Tl{α:Type}{R:α→α→Prop}:∀{l:List α},l.Pairwise R→∀{p q:Nat} {a b:α},l[p]?=some a→l[q]?=some b→p<q→R a b
 |[],_,p,q,a,b,h,_,_=>by simp at h
 |x::xs,h,p,q,a,b,ha,hb,vA=>by
  obtain⟨h1,h2⟩:=te.1 h;obtain⟨q,rfl⟩:∃k,q=k+1:=⟨q-1,by omega⟩
  simp only[xV]at hb;cases p with
  |zero=>simp at ha;subst ha;exact h1 b (fW hb)
  |succ p=>simp only[xV]at ha;exact Tl h2 ha hb (by omega)
def FM(rk:Nat→Int)(ap:Nat→Bool)(n:Nat):List Nat:=(kK rk (List.range n)).filter ap
theorem ad1{rk:Nat→Int}{ap:Nat→Bool}{n:Nat}:(FM rk ap n).Pairwise (Ord rk):=(FL n).1.sublist VQ
theorem ad2{rk:Nat→Int}{ap:Nat→Bool}{n z:Nat}(h:z∈FM rk ap n):z<n:=((FL n).2 z).1 (r9.1 h).1
theorem ad3{rk:Nat→Int}{x:Nat}:∀{P Q:List Nat},(∀y∈P,¬ rk x<rk y)→(∀y∈Q,rk x<rk y)→rC rk x (P++Q)=P++x::Q
 |[],[],_,_=>rfl
 |[],y::Q,_,h=>by simp[rC,h y (by simp)]
 |p::P,Q,h,h2=>by
  rw[ud,rC,ay (h p (by simp)),ad3 (fun y hy=>h y (by simp[hy])) h2]
  rfl
theorem arx{rk:Nat→Int}{x:Nat}{A:List Nat}(hs:A.Pairwise (Ord rk)){j:Nat}(hj:j≤A.length)(h1:∀k y,j≤k→A[k]?=some y→rk x<rk y)
  (h2:∀y,0<j→A[j-1]?=some y→¬ rk x<rk y):rC rk x A=A.take j++x::A.drop j:=by
 conv=>lhs;rw[←V3 j A]
 refine ad3 (fun y hy=>?_) fun y hy=>?_
 ·obtain⟨k,hk⟩:=nH.1 hy
  rw[iP]at hk;split at hk
  ·rename_i hkj
   have hz:A[j-1]?=some (A[j-1]'(by omega)):=fN _
   have:=h2 _ (by omega) hz
   by_cases e:k=j-1
   ·subst e;rw[hz]at hk;cases hk;exact this
   ·rcases Tl hs hk hz (by omega) with g | ⟨g,_⟩<;>omega
  ·cases hk
 ·obtain⟨k,hk⟩:=nH.1 hy
  rw[mn]at hk;exact h1 (j+k) y (by omega) hk
theorem ad4{rk:Nat→Int}{n:Nat}:kK rk (List.range (n+1))=rC rk n (kK rk (List.range n)):=by rw[AX,ad0]
theorem ad5{rk:Nat→Int}{x:Nat}:∀{l:List Nat},(rC rk x l).length=l.length+1
 |[]=>rfl
 |y::ys=>by
  unfold rC;split
  ·rfl
  ·simp[ad5 (l:=ys)]
theorem Jg{rk:Nat→Int}:∀n:Nat,(kK rk (List.range n)).length=n
 |0=>rfl
 |n+1=>by rw[ad4,ad5,Jg n]
theorem ary{rk:Nat→Int}{l:List Nat}(h:l.Pairwise (Ord rk)):l.Nodup:=h.imp fun {a b} g e=>by
 rcases g with g | ⟨_,g⟩<;>subst e<;>omega
theorem arz{b:Nat→Int×Int}{nx ny:Int}{P:List Nat}{c:Ch}(h:Inv b nx ny P c)(hp:P.Nodup):(c.ys.map (·.1)).Nodup:=by
 rw[h.ys];exact hp.sublist VQ
def Aq(ys:List (Nat×Int))(k:Nat):Int:=match ys with
 |[] => -2
 |(i,y)::ys=>if i=k then y else Aq ys k
theorem ad6:∀{ys:List (Nat×Int)},(ys.map (·.1)).Nodup→∀{i:Nat} {y:Int},(i,y)∈ys→Aq ys i=y
 |[],_,i,y,h=>by cases h
 |(j,z)::ys,hn,i,y,h=>by
  obtain⟨h1,h2⟩:=List.nodup_cons.1 hn;unfold Aq;rcases jB.1 h with e|h
  ·cases e;rw[aM rfl]
  ·rw[ay (fun e=>h1 (by subst e;exact kP.2 ⟨_,h,rfl⟩)),ad6 h2 h]
theorem arA{ys:List (Nat×Int)}(hn:(ys.map (·.1)).Nodup):(ys.map (·.1)).map (fun k=>(k,Aq ys k))=ys:=by
 rw[wG]
 conv=>rhs;rw[←List.map_id ys]
 refine Ee fun p hp=>?_;obtain⟨i,y⟩:=p;simp[ad6 hn hp]
structure aB4(b:Nat→Int×Int)(c:Ch)(f:Int×Int):Prop where
 up:c.ys≠[]→c.up=true→c.hi<f.1
 dn:c.ys≠[]→c.up=false→f.2<c.lo
 le:f.1≤f.2
 nu:c.ys=[]→c.up=false
theorem aAd{b:Nat→Int×Int}{nx ny:Int}{P:List Nat}{c:Ch}{f:Int×Int}(h:Inv b nx ny P c)(hf:aB4 b c f)(w:Int) :
  mA c w=if c.ys=[] then BQ w c.lo c.hi else if f.2<c.lo then c.lo else c.hi:=by
 have hm:=h.m;have hl:=hf.le;unfold mA;by_cases hy:c.ys=[]
 ·rw[aM hy,aM hy]
 ·rw[ay hy,ay hy]
  cases hu:c.up with
  |true =>
   have:=hf.up hy hu;rw[aM rfl,ay (by omega)]
  |false =>
   have:=hf.dn hy hu;rw[ay (by simp),aM this]
theorem aAe{b:Nat→Int×Int}(hb:∀i,(b i).1≤(b i).2){nx ny:Int}{P:List Nat}{c:Ch}(h:Inv b nx ny P c){f:Int×Int}(hf:aB4 b c f)(i:Nat) :
  aB4 b (sO b c i) (if out b c i=true∧c.ys=[] then b i else f):=by
 have P8:=hb i;have hm:=h.m;obtain⟨u,d,l,nu⟩:=hf;unfold sO;split
 ·rename_i h1
  have ho:out b c i=true:=by simp[out,h1]
  by_cases hy:c.ys=[]
  ·rw[aM ⟨ho,hy⟩]
   exact⟨fun _ hu=>(by rw[nu hy]at hu;cases hu),fun _ _=>h1,P8,fun _=>nu hy⟩
  ·rw[ay (fun g=>hy g.2)]
   exact⟨fun _=>u hy,fun _=>d hy,l,fun g=>by simp at g⟩
 ·rename_i h1
  split
  ·rename_i h2
   have ho:out b c i=true:=by simp[out,h2]
   by_cases hy:c.ys=[]
   ·rw[aM ⟨ho,hy⟩]
    refine⟨fun _ _=>h2,fun _ hd=>?_,P8,fun g=>by simp at g⟩
    simp[hy]at hd
   ·rw[ay (fun g=>hy g.2)]
    have e:c.ys.isEmpty=false:=by cases hc:c.ys<;>simp_all
    refine⟨fun _ hu=>u hy ?_,fun _ hd=>d hy ?_,l,fun g=>by simp at g⟩
    ·simpa [e] using hu
    ·simpa [e] using hd
  ·rename_i h2
   have ho:out b c i=false:=by simp only[out,decide_eq_false_iff_not];omega
   have ef:(if out b c i=true∧c.ys=[] then b i else f)=f:=ay fun g=>by rw[ho]at g;cases g.1
   rw[ef];refine⟨fun hy hu=>?_,fun hy hd=>?_,l,nu⟩
   ·have:=u hy hu;simp only;omega
   ·have:=d hy hd;simp only;omega
end Go.Chs
namespace Go.Vm
set_option linter.all false
end Go.Vm
namespace Go.Chs
set_option linter.all false
open Go.Vm
variable {α:Type}
def oI(A:List α)(x:α)(j:Nat)(R:List α):List α:=A.take j++x::(A.drop j++R)
theorem Tm{A:List α}{x:α}{j:Nat}{R:List α}(h:j≤A.length):(oI A x j R).length=A.length+1+R.length:=by
 simp[oI];omega
theorem arB{A:List α}{x:α}{R:List α}:oI A x A.length R=A++x::R:=by simp[oI]
theorem ad7{A:List α}{x:α}{j:Nat}{R:List α}(h:j≤A.length):(oI A x j R)[j]?=some x:=by
 unfold oI;rw[qg (by simp;omega)]
 simp[wI h]
theorem arC{A:List α}{x:α}{j:Nat}{R:List α}(h:j≤A.length)(h0:0<j):(oI A x j R)[j-1]?=A[j-1]?:=by
 unfold oI;rw[nG (by simp;omega),iP,aM (by omega)]
theorem arD{A:List α}{x y:α}{j:Nat}{R:List α}(h:j≤A.length)(h0:0<j)(hy:A[j-1]?=some y):((oI A x j R).set j y).set (j-1) x=oI A x (j-1) R:=by
 refine wD fun k=>?_;have hlen:=Tm (x:=x) (R:=R) h;have Qm:=Tm (A:=A) (x:=x) (j:=j-1) (R:=R) (by omega)
 rw[jU,jU];simp only[oR,hlen];by_cases e1:j-1=k
 ·subst e1
  rw[aM rfl,aM (by omega),ad7 (by omega)]
 ·rw[ay e1]
  by_cases e2:j=k
  ·subst e2
   rw[aM rfl,aM (by omega)]
   unfold oI;rw[qg (by simp;omega),AW,wI (by omega),show j-(j-1)=0+1 by omega,xV,nG (by simp;omega),mn,wH,hy]
  ·rw[ay e2]
   unfold oI;by_cases hk:k<j-1
   ·rw[nG (by simp;omega),nG (by simp;omega),iP,iP,aM (by omega),aM hk]
   ·rw[qg (by simp;omega),qg (by simp;omega),AW,AW,wI h,wI (by omega:j-1≤A.length)]
    obtain⟨m,rfl⟩:∃m,k=j+1+m:=⟨k-j-1,by omega⟩
    rw[show j+1+m-j=m+1 by omega,show j+1+m-(j-1)=(m+1)+1 by omega,xV,xV]
    by_cases hm:m<(A.drop j).length
    ·rw[nG hm,nG (by simp at hm ⊢;omega),mn,mn]
     congr 1;omega
    ·rw[qg (by omega),qg (by simp at hm ⊢;omega)]
     congr 1;simp;omega
structure BR(p:α→Bool)(O L:List α)(i j:Nat):Prop where
 len:L.length=O.length
 le:i≤j
 t:L.take i=(O.take j).filter p
 d:L.drop j=O.drop j
theorem arE{p:α→Bool}{O L:List α}{i j:Nat}{v:α}(h:BR p O L i j)(hv:O[j]?=some v)(hp:p v=true):BR p O (L.set i v) (i+1) (j+1):=by
 obtain⟨hl,hle,ht,hd⟩:=h;have hj:=(wE.1 hv).1;refine⟨by simpa using hl,by omega,?_,?_⟩
 ·rw[xX,xX,hv,uZ,← ht]
  rw[jU,aM rfl,aM (by omega),V4 (bV _)]
  simp[hp]
 ·have e:L.drop (j+1)=O.drop (j+1):=by
   have:=congrArg (List.drop 1) hd;simpa [uX] using this
  rw[List.drop_set_of_lt (by omega)]
  exact e
theorem arF{p:α→Bool}{O L:List α}{i j:Nat}{v:α}(h:BR p O L i j)(hv:O[j]?=some v)(hp:p v=false):BR p O L i (j+1):=by
 obtain⟨hl,hle,ht,hd⟩:=h;refine⟨hl,by omega,?_,?_⟩
 ·rw[xX,hv,uZ,← ht]
  simp[hp]
 ·have:=congrArg (List.drop 1) hd
  simpa [uX] using this
theorem arG{p:α→Bool}{O L:List α}{i j:Nat}(h:BR p O L i j):L[j]?=O[j]?:=by
 have:=congrArg (fun l=>l[0]?) h.d;simpa using this
theorem arH{p:α→Bool}{O:List α}{i:Nat}(hi:i<O.length)(h1:∀k v,k<i→O[k]?=some v→p v=true)(h2:∀v,O[i]?=some v→p v=false):BR p O O i (i+1):=by
 have hv:=fN hi;refine⟨rfl,by omega,?_,rfl⟩
 rw[xX,hv,uZ,Ec.2 fun v hv=>?_]
 ·simp[h2 _ (fN hi)]
 ·obtain⟨k,hk⟩:=nH.1 hv
  rw[iP]at hk;split at hk
  ·exact h1 k v (by assumption) hk
  ·cases hk
theorem arI{p:α→Bool}{O L:List α}{i:Nat}(h:BR p O L i O.length):L.take i=O.filter p:=by rw[h.t,na]
end Go.Chs
namespace Go.Proofs.YtmppfkgfnnebeaaGreatDoor
set_option linter.all false
open Go.Vm Go.Chs
def Jh(x y:Int):Int:=if x<y then -1 else if y<x then 1 else 0
def nc(l:List Nat):List V:=dD (l.map fun k:Nat=>(k:Int))
@[simp] theorem aB6{l:List Nat}:(nc l).length=l.length:=by simp[nc,dD]
theorem Ji{l:List Nat}{i x:Nat}(h:l[i]?=some x):(nc l)[i]?=some (i64 (x:Int)):=by simp[nc,dD,h]
theorem ad8{l:List Nat}{i x:Nat}:(nc l).set i (i64 (x:Int))=nc (l.set i x):=by simp[nc,dD,OD]
@[simp] theorem aB7{l:List Nat}{d:Nat}:(nc l).all (fun v => !v.cA d)=true:=Ym
theorem arJ:nc []=[]:=rfl
theorem arK{n:Nat}:nc (List.range n)++[i64 (n:Int)]=nc (List.range (n+1)):=by simp[nc,dD,AX]
theorem arL{l:List Nat}{n:Nat}(h:n=l.length):kc [none] (chunks 1 (nc l) 0 n)=some ((l.map fun k:Nat=>(k:Int)).map fun n=>[i64 n]):=LR (by simpa using h)
theorem arM{l:List Nat}:((l.map fun k:Nat=>(k:Int)).map fun n=>[V.int .i64 n]).flatten=nc l:=by
 induction l with
 |nil=>rfl
 |cons a l ih=>simpa [nc,dD] using ih
def iW(l:List Cd)(i:Nat):Int:=(nth l i).rk
theorem arN{l:List Cd}{x y:Nat}(hx:x<l.length)(hy:y<l.length)(A B C D:aS) :
  aZ F 211 [i64 (x:Int),i64 (y:Int),.bm 3 0] [A,B,C,.cells [g5 l],D]=some (i64 (Jh (iW l x) (iW l y)),[A,B,C,.cells [g5 l],D]) :=
 bM rfl rfl (by
  simp (disch:=omega) [-getElem?_pos,wrap64,acE,bf (l:=l),MQ];rfl)
theorem arO{n i:Nat}(h:i≤n):List.range n=List.range i++List.range' i (n-i):=by
 refine wD fun k=>?_;rw[oQ];split
 ·rename_i g
  rw[Kk (by simp at g;omega),Kk (by simpa using g)]
 ·rename_i g
  simp only[Km]at g ⊢;by_cases h2:k<n
  ·rw[Kk h2,List.getElem?_range' (by omega)]
   congr 1;omega
  ·rw[jT (by simp;omega),jT (by simp;omega)]
set_option maxHeartbeats 1000000 in
theorem arP{l:List Cd}{n:Nat}(hn:n=l.length)(mT:n≤19)(A B C:aS) :
  aZ F 227 [.c5 4 1 n,i64 0,i64 (n:Int),.fn 211 [.bm 3 0]] [A,B,C,.cells [g5 l],.cells (nc (List.range n))]=some (.tuple [],[A,B,C,.cells [g5 l],.cells (nc (kK (iW l) (List.range n)))]) :=
 bM rfl rfl (by
  by_cases h0:n=0
  ·subst h0
   simp (disch:=omega) [wrap64,Sx];rw[acW,vX];simp (disch:=omega) [wrap64,Su];rfl
  simp (disch:=omega) [wrap64,Sx];refine go_loop (fun i:Nat=>apX (.c5 4 1 n) 0 n (.fn 211 [.bm 3 0]) i [A,B,C,.cells [g5 l],.cells (nc (kK (iW l) (List.range i)++List.range' i (n-i)))]) (fun i=>1≤i∧i≤n) (fun i=>n-i) 1 rfl (by
   have:kK (iW l) (List.range 1)=List.range 1:=rfl;rw[this,← arO (by omega)]
   simp) ⟨by omega,by omega⟩ ?_
  rintro i ⟨h1,hi⟩;simp (disch:=omega) [wrap64,Su];refine bT (fun h=>?_) (fun h=>?_)
  case refine_2 =>
   obtain rfl:i=n:=by omega
   simp
  have h:i<n:=by omega
  obtain⟨O,hO⟩:∃O,O=kK (iW l) (List.range i):=⟨_,rfl⟩;have EX:O.length=i:=by rw[hO,Jg]
  have SJ:=(FL (rk:=iW l) i).1;have hOm:=(FL (rk:=iW l) i).2;rw[←hO]at SJ hOm;obtain⟨R,hR⟩:∃R,R=List.range' (i+1) (n-(i+1)):=⟨_,rfl⟩;have ez:O++List.range' i (n-i)=oI O i O.length R:=by
   rw[arB,hR,show n-i=(n-(i+1))+1 by omega,Eh]
  rw[←hO,ez];refine go_loop (fun j:Nat=>apW (.c5 4 1 n) 0 n (.fn 211 [.bm 3 0]) i j [A,B,C,.cells [g5 l],.cells (nc (oI O i j R))]) (fun j=>j≤i∧∀k y,j≤k→O[k]?=some y→iW l i<iW l y) (fun j=>j) i rfl (by simp[EX]) ⟨by omega,fun k y hk hy=>by rw[jT (by omega)]at hy;cases hy⟩ ?_
  rintro j ⟨hj,hp⟩;have aeb:∀(h2:∀y,0<j→O[j-1]?=some y→¬ iW l i<iW l y),oI O i j R=kK (iW l) (List.range (i+1))++List.range' (i+1) (n-(i+1)):=fun h2=>by
   rw[ad4,← hO,arx SJ (by omega) hp h2,← hR]
   simp[oI]
  have arR:(oI O i j R).length=n:=by rw[Tm (by omega),hR];simp;omega
  by_cases hj0:j=0
  ·subst hj0
   rw[aeb (fun y hy=>by omega)]
   simp (disch:=omega) [wrap64,Mz];exact bP (i+1) (by simp) ⟨by omega,by omega⟩ (by omega)
  obtain⟨y,hy⟩:∃y,O[j-1]?=some y:=⟨_,fN (by omega)⟩
  have MT:y<l.length:=by have:=(hOm y).1 (fW hy);omega
  have c1:(nc (oI O i j R))[j]?=some (i64 (i:Int)):=Ji (ad7 (by omega))
  have c2:(nc (oI O i j R))[j-1]?=some (i64 (y:Int)):=Ji (by rw[arC (by omega) (by omega),hy])
  have hjp:0<j:=by omega
  have Ad:j<n:=by omega
  have t5:j+1≤n:=by omega
  have t6:j≤n:=by omega
  have t3:(j:Int)-1<n:=by omega
  have t4:(1:Int)≤(j:Int):=by omega
  have t1:((j:Int)-1).toNat=j-1:=by omega
  have t2:((j:Int)-1)=((j-1:Nat):Int):=by omega
  have hc:=arN (l:=l) (x:=i) (y:=y) (by omega) MT A B C (.cells (nc (oI O i j R)))
  by_cases hr:iW l i<iW l y
  ·have Jj:Jh (iW l i) (iW l y) = -1:=by unfold Jh;rw[aM hr]
   rw[Jj]at hc;have hsw:=arD (R:=R) (x:=i) (by omega) (by omega) hy
   simp (disch:=omega) [wrap64,Mz,hjp,Ad,t3,t4,c1,c2,t1,hc,ad8,hsw,arR,t5,t6];exact bP (j-1) (by simp[t2]) ⟨by omega,fun k z hk hz=>by
    by_cases e:k=j-1
    ·subst e;rw[hy]at hz;cases hz;exact hr
    ·exact hp k z (by omega) hz⟩ (by omega)
  ·have Jj:¬ Jh (iW l i) (iW l y)<0:=by unfold Jh;rw[ay hr];split<;>omega
   rw[aeb (fun z _ hz=>by rw[hy]at hz;cases hz;exact hr)]at *
   simp (disch:=omega) [wrap64,Mz,hjp,Ad,t3,t4,c1,c2,t1,hc,Jj];exact bP (i+1) (by simp) ⟨by omega,by omega⟩ (by omega))
end Go.Proofs.YtmppfkgfnnebeaaGreatDoor
namespace Go.Proofs.YtmppfkgfnnebeaaGreatDoor
set_option linter.all false
open Go.Vm
attribute [local simp] lZ l7 lX lY
structure Rs where
 c:List Pt
 d:Int
 l:Int
 f:Int
 s:Int
 t:Int
abbrev Rs.cells(r:Rs):List V:=[iM r.c,i64 r.d,i64 r.l,i64 r.f,i64 r.s,i64 r.t]
def tN(c:List Pt)(i:Nat):Int:=if (nth c i).y≤(nth c (i-1)).y then 4 else 0
def tO(r:Rs):List Int:=[(nth r.c 0).x,r.d,r.l,r.f,r.s,r.t,(nth r.c (r.c.length-1)).x]
def qJ(l:List Int)(i:Nat):Int:=if nth l i<nth l (i-1) then 4 else 0
def iy(r:Rs):Int :=
 if gB r.c≠0 then gB r.c else if r.c.length<2 then 3 else if 16777216<(nth r.c (r.c.length-1)).x then 1
 else if dH (tN r.c) (r.c.length-1) 1=0 then dH (qJ (tO r)) (7-1) 1 else 4
theorem aed{c:List Pt}(h:gB c=0):c.length≤100:=by
 unfold gB at h;split at h
 ·cases h
 ·split at h
  ·cases h
  ·omega
theorem aee(r:Rs)(G:List aS):aZ F 151 [.agg r.cells] G=some (i64 (iy r),G) :=
 bM rfl rfl (by
  generalize hW:iy r=W;unfold iy at hW;simp (disch:=omega) [-getElem?_pos,wrap64,abH,oG];refine gY (fun h=>?_) (fun h=>?_)
  ·simp[-List.length_eq_zero_iff,-Int.natCast_eq_zero]at h
   rw[aM (by omega)]at hW
   exact hW
  ·simp[-List.length_eq_zero_iff,-Int.natCast_eq_zero]at h
   rw[ay (by omega)]at hW
   refine bT (fun h2=>?_) (fun h2=>?_)
   ·rw[aM (by omega)]at hW
    simpa using hW
   ·rw[ay (by omega)]at hW
    have h3:((r.c.length:Int)-1).toNat=r.c.length-1:=by omega
    have h4:r.c.length-1<r.c.length:=by omega
    have h5:0≤(r.c.length:Int)-1:=by omega
    have hl:=aed h;simp (disch:=omega) [-getElem?_pos,wrap64,bf (l:=r.c),h3,h4,h5];refine bT (fun h6=>?_) (fun h6=>?_)
    ·rw[aM (by omega)]at hW
     simpa using hW
    ·rw[ay (by omega)]at hW
     have hq:(if dH (tN r.c) (r.c.length-1) 1=0 then dH (qJ (tO r)) (7-1) 1 else (4:Int))=W:=hW
     clear hW
     refine go_loop (fun i:Nat=>aoT r.c.length i r.cells G) (fun i=>1≤i∧i≤r.c.length∧(if dH (tN r.c) (r.c.length-i) i=0 then dH (qJ (tO r)) (7-1) 1 else (4:Int))=W) (fun i=>r.c.length-i) 1 rfl (by simp) ⟨by omega,by omega,hq⟩ ?_
     rintro i ⟨Tn,hi,hq⟩;simp (disch:=omega) [-getElem?_pos,wrap64,abF];refine bT (fun h7=>?_) (fun h7=>?_)
     ·have h7:i<r.c.length:=by omega
      rw[kZ h7]at hq;have h8:((i:Int)-1).toNat=i-1:=by omega
      have h9:i-1<r.c.length:=by omega
      have gx:0≤(i:Int)-1:=by omega
      simp (disch:=omega) [-getElem?_pos,wrap64,bf (l:=r.c),h8,h9,gx,h7];refine bT (fun lu=>?_) (fun lu=>?_)
      ·have e:tN r.c i=4:=by rw[tN,aM lu]
       rw[e]at hq;simpa using hq
      ·have e:tN r.c i=0:=by rw[tN,ay lu]
       rw[e,aM rfl]at hq;exact bP (i+1) (by simp) ⟨by omega,by omega,hq⟩ (by omega)
     ·have h7:i=r.c.length:=by omega
      subst h7;rw[mO]at hq;rw[aM rfl]at hq;simp (disch:=omega) [-getElem?_pos,wrap64,bf (l:=r.c),h3,h4,h5];have hL:(tO r).length=7:=rfl;have hO:[V.int IntKind.i64 (nth r.c 0).x,V.int IntKind.i64 r.d,V.int IntKind.i64 r.l,V.int IntKind.i64 r.f,V.int IntKind.i64 r.s,V.int IntKind.i64 r.t,V.int IntKind.i64 (nth r.c (r.c.length-1)).x]=(tO r).map (V.int .i64):=rfl;rw[hO];generalize tO r=L at hq hL ⊢;refine go_loop (fun i:Nat=>aoV i (L.map (V.int .i64)) G) (fun i=>1≤i∧i≤7∧dH (qJ L) (7-i) i=W) (fun i=>7-i) 1 rfl (by simp) ⟨by omega,by omega,hq⟩ ?_
      rintro j ⟨np,hj,hq⟩;simp (disch:=omega) [-getElem?_pos,wrap64,abG];refine bT (fun h7=>?_) (fun h7=>?_)
      ·have h7:j<7:=by omega
       rw[kZ h7]at hq;have h8:((j:Int)-1).toNat=j-1:=by omega
       have h9:j-1<L.length:=by omega
       have gx:0≤(j:Int)-1:=by omega
       have lu:j<L.length:=by omega
       simp (disch:=omega) [-getElem?_pos,wrap64,bf (l:=L),h8,h9,gx,h7,lu,hL];refine bT (fun uw=>?_) (fun uw=>?_)
       ·have e:qJ L j=4:=by rw[qJ,aM uw]
        rw[e]at hq;simpa using hq
       ·have e:qJ L j=0:=by rw[qJ,ay uw]
        rw[e,aM rfl]at hq;exact bP (j+1) (by simp) ⟨by omega,by omega,hq⟩ (by omega)
      ·have h7:j=7:=by omega
       subst h7;simpa [dH] using hq)
theorem tP{r:Rs}(h:iy r=0):gB r.c=0:=by
 unfold iy at h;split at h
 ·rename_i h1;exact h
 ·rename_i h1;exact g7 h1
theorem aef{c:List Pt}(h:Cv c):∀{m i:Nat},i+m<c.length→(nth c i).x≤(nth c (i+m)).x
 |0,i,_=>by simp
 |m+1,i,hi=>by
  have h1:=aef h (m:=m) (i:=i) (by omega)
  have h2:=h.up (i+m+1) (by omega) (by omega)
  have h3:i+m+1-1=i+m:=by omega
  rw[h3]at h2;have h4:i+(m+1)=i+m+1:=by omega
  rw[h4];omega
theorem BS(r:Rs)(G:List aS):aZ F 89 [.agg r.cells] G=some (i64 (iy r),G) :=
 bM rfl rfl (by
  generalize hW:iy r=W;unfold iy at hW;by_cases h:gB r.c=0
  ·rw[ay (by omega)]at hW
   have hl:=aed h;simp (disch:=omega) [-getElem?_pos,wrap64,RI,mz,h];refine bT (fun h2=>?_) (fun h2=>?_)
   ·rw[aM (by omega)]at hW
    simpa using hW
   ·rw[ay (by omega)]at hW
    have h3:((r.c.length:Int)-1).toNat=r.c.length-1:=by omega
    have h4:r.c.length-1<r.c.length:=by omega
    have h5:0≤(r.c.length:Int)-1:=by omega
    refine go_loop (fun i:Nat=>anh r.c.length (iM r.c) r.c.length i r.cells G) (fun i=>i≤r.c.length∧∀j,j<i→(nth r.c j).x≤16777216) (fun i=>r.c.length-i) 0 rfl (by simp) ⟨by omega,by omega⟩ ?_
    rintro i ⟨hi,hz⟩;simp (disch:=omega) [-getElem?_pos,wrap64,aaB];refine bT (fun h6=>?_) (fun h6=>?_)
    ·have h6:i<r.c.length:=by omega
     simp (disch:=omega) [-getElem?_pos,wrap64,bf (l:=r.c),h6];refine bT (fun h7=>?_) (fun h7=>?_)
     ·have h8:=aef (mQ h) (m:=r.c.length-1-i) (i:=i) (by omega)
      rw[show i+(r.c.length-1-i)=r.c.length-1 by omega]at h8
      rw[aM (by omega)]at hW
      simpa using hW
     ·exact bP (i+1) (by simp) ⟨by omega,fun j hj=>by rcases cF j i with h|h;exact hz j h;rw[show j=i by omega];omega⟩ (by omega)
    ·have h6:i=r.c.length:=by omega
     subst h6;have h8:=hz (r.c.length-1) (by omega)
     rw[ay (by omega)]at hW
     have hq:(if dH (tN r.c) (r.c.length-1) 1=0 then dH (qJ (tO r)) (7-1) 1 else (4:Int))=W:=hW
     clear hW
     refine go_loop (fun i:Nat=>anj r.c.length i r.cells G) (fun i=>1≤i∧i≤r.c.length∧(if dH (tN r.c) (r.c.length-i) i=0 then dH (qJ (tO r)) (7-1) 1 else (4:Int))=W) (fun i=>r.c.length-i) 1 rfl (by simp) ⟨by omega,by omega,hq⟩ ?_
     rintro i ⟨Tn,hi,hq⟩;simp (disch:=omega) [-getElem?_pos,wrap64,aaC];refine bT (fun h7=>?_) (fun h7=>?_)
     ·have h7:i<r.c.length:=by omega
      rw[kZ h7]at hq;have h8:((i:Int)-1).toNat=i-1:=by omega
      have h9:i-1<r.c.length:=by omega
      have gx:0≤(i:Int)-1:=by omega
      simp (disch:=omega) [-getElem?_pos,wrap64,bf (l:=r.c),h8,h9,gx,h7];refine bT (fun lu=>?_) (fun lu=>?_)
      ·have e:tN r.c i=4:=by rw[tN,aM lu]
       rw[e]at hq;simpa using hq
      ·have e:tN r.c i=0:=by rw[tN,ay lu]
       rw[e,aM rfl]at hq;exact bP (i+1) (by simp) ⟨by omega,by omega,hq⟩ (by omega)
     ·have h7:i=r.c.length:=by omega
      subst h7;rw[mO]at hq;rw[aM rfl]at hq;simp (disch:=omega) [-getElem?_pos,wrap64,bf (l:=r.c),h3,h4,h5];have hL:(tO r).length=7:=rfl;have hO:[[V.int IntKind.i64 (nth r.c 0).x],[V.int IntKind.i64 r.d],[V.int IntKind.i64 r.l],[V.int IntKind.i64 r.f],[V.int IntKind.i64 r.s],[V.int IntKind.i64 r.t],[V.int IntKind.i64 (nth r.c (r.c.length-1)).x]]=(tO r).map (fun n=>[V.int .i64 n]):=rfl;rw[hO];generalize tO r=L at hq hL ⊢;refine go_loop (fun i:Nat=>anl (.slice none 1 (L.map (fun n=>[V.int .i64 n]))) i G) (fun i=>1≤i∧i≤7∧dH (qJ L) (7-i) i=W) (fun i=>7-i) 1 rfl (by simp) ⟨by omega,by omega,hq⟩ ?_
      rintro j ⟨np,hj,hq⟩;simp (disch:=omega) [-getElem?_pos,wrap64,aaD,hL];refine bT (fun h7=>?_) (fun h7=>?_)
      ·have h7:j<7:=by omega
       rw[kZ h7]at hq;have h8:((j:Int)-1).toNat=j-1:=by omega
       have h9:j-1<L.length:=by omega
       have gx:0≤(j:Int)-1:=by omega
       have lu:j<L.length:=by omega
       simp (disch:=omega) [-getElem?_pos,wrap64,bf (l:=L),h8,h9,gx,h7,lu,hL];refine bT (fun uw=>?_) (fun uw=>?_)
       ·have e:qJ L j=4:=by rw[qJ,aM uw]
        rw[e]at hq;simpa using hq
       ·have e:qJ L j=0:=by rw[qJ,ay uw]
        rw[e,aM rfl]at hq;exact bP (j+1) (by simp) ⟨by omega,by omega,hq⟩ (by omega)
      ·have h7:j=7:=by omega
       subst h7;simpa [dH] using hq
  ·rw[aM h]at hW
   simp (disch:=omega) [-getElem?_pos,wrap64,RI,mz,h];exact hW)
def tQ(r:Rs)(l:Int):Int:=if iy r≠0 then iy r else if 0≤l∧l≤16777216 then 0 else 1
theorem arU{r:Rs}{l:Int}(h:tQ r l=0):iy r=0:=by
 unfold tQ at h;split at h
 ·exact h
 ·rename_i h1;exact g7 h1
theorem aeg(r:Rs)(l:Int)(G:List aS):aZ F 141 [.agg r.cells,i64 l] G=some (i64 (tQ r l),G) :=
 bM rfl rfl (by
  by_cases h:iy r=0
  ·by_cases h1:0≤l
   ·by_cases h2:l≤16777216
    ·simp[wrap64,IQ,BS,h,h1,h2,c7,tQ]
    ·simp[wrap64,IQ,BS,h,h1,h2,c7,tQ]
   ·simp[wrap64,IQ,BS,h,h1,c7,tQ]
  ·simp[wrap64,IQ,BS,h,tQ])
theorem MU(r:Rs)(l:Int)(G:List aS):aZ F 101 [.agg r.cells,i64 l] G=some (.tuple [i64 (if tQ r l=0 then iw r.c l else 0),i64 (tQ r l)],G) :=
 bM rfl rfl (by
  by_cases h:tQ r l=0
  ·simp[wrap64,RL,aeg,h,SS,tP (arU h)]
  ·simp[wrap64,RL,aeg,h])
def DG(c:List Pt)(y:Int)(i:Nat):Int :=
 (nth c i).x+((y-(nth c i).y+1)*((nth c (i+1)).x-(nth c i).x)-1).tdiv ((nth c (i+1)).y-(nth c i).y)
def sR(c:List Pt)(y:Int):Nat→Nat→Int
 |0,_=>(nth c (c.length-1)).x
 |m+1,i=>if y<(nth c (i+1)).y then DG c y i else sR c y m (i+1)
def yO(c:List Pt)(y:Int):Int:=sR c y (c.length-1) 0
theorem arV{c:List Pt}{y:Int}{i n:Nat}(h:i<n):sR c y (n-i) i=if y<(nth c (i+1)).y then DG c y i else sR c y (n-(i+1)) (i+1):=by
 obtain⟨m,hm⟩:∃m,n-i=m+1:=⟨n-i-1,by omega⟩
 rw[hm,sR,show n-(i+1)=m by omega]
theorem aeh{c:List Pt}(h:gB c=0)(y:Int)(G:List aS) :
  aZ F 195 [iM c,i64 y] G=some (.tuple [i64 (if y<(nth c 0).y then 0 else yO c y),.bool (decide ((nth c 0).y≤y)),i64 0],G) :=
 bM rfl rfl (by
  have hc:=mQ h;have hp:=hc.pos;have hl:=hc.kH;simp (disch:=omega) [-getElem?_pos,wrap64,acn,oG,h,bf (l:=c),hp];refine bT (fun h1=>⟨fun h2=>absurd h1 (by omega),h1⟩) (fun h1=>?_)
  have hT:(List.take c.length (List.map Pt.row c)).tail=c.tail.map Pt.row:=by
   rw[mo (by simp),List.map_tail]
  have hTl:c.tail.length=c.length-1:=by simp
  have hTn:∀i,nth c.tail i=nth c (i+1):=fun i=>by simp[nth]
  rw[hT];generalize c.tail=T at hTl hTn ⊢;refine go_loop (fun i:Nat=>apw (iM c) y (.slice none 2 (T.map Pt.row)) ((c.length-1:Nat):Int) i G) (fun i=>i≤c.length-1∧sR c y (c.length-1-i) i=yO c y∧(nth c i).y≤y) (fun i=>c.length-1-i) 0 rfl (by simp) ⟨by omega,rfl,by omega⟩ ?_
  rintro i ⟨hi,hq,hy⟩;simp (disch:=omega) [-getElem?_pos,wrap64,acm];refine bT (fun h2=>?_) (fun h2=>?_)
  ·have h2:i<c.length-1:=by omega
   rw[arV h2]at hq;have h3:i<T.length:=by omega
   have h4:i<c.length:=by omega
   simp (disch:=omega) [-getElem?_pos,wrap64,bf (l:=T),bf (l:=c),h3,h4,hTn];refine bT (fun h5=>?_) (fun h5=>?_)
   ·rw[aM h5]at hq
    have y1:=hc.y0 i h4;have y2:=hc.y0 (i+1) (by omega)
    have x1:=hc.x0 i h4;have x2:=hc.x0 (i+1) (by omega)
    have u1:=hc.up (i+1) (by omega) (by omega)
    have u2:=hc.prod (i+1) (by omega) (by omega)
    simp only[sa]at u1 u2;have a1:(y-(nth c i).y+1)*((nth c (i+1)).x-(nth c i).x)≤((nth c (i+1)).y-(nth c i).y)*((nth c (i+1)).x-(nth c i).x):=Cg (by omega) (by omega)
    have a2:0<(y-(nth c i).y+1)*((nth c (i+1)).x-(nth c i).x):=Ot (by omega) (by omega)
    have b1:0≤((y-(nth c i).y+1)*((nth c (i+1)).x-(nth c i).x)-1).tdiv ((nth c (i+1)).y-(nth c i).y):=xU (by omega) (by omega)
    have b2:((y-(nth c i).y+1)*((nth c (i+1)).x-(nth c i).x)-1).tdiv ((nth c (i+1)).y-(nth c i).y)≤(y-(nth c i).y+1)*((nth c (i+1)).x-(nth c i).x)-1:=Ci _ (by omega)
    have d0:¬ (nth c (i+1)).y-(nth c i).y=0:=by omega
    have e0:¬ y<(nth c 0).y:=h1;have e1:(nth c 0).y≤y:=by omega
    simp (disch:=omega) [-getElem?_pos,wrap64,wrap64,d0,e0,e1];rw[←hq];rfl
   ·rw[ay h5]at hq
    exact bP (i+1) (by simp) ⟨by omega,hq,by omega⟩ (by omega)
  ·have h2:i=c.length-1:=by omega
   subst h2;have h4:c.length-1<c.length:=by omega
   have h5:((c.length:Int)-1).toNat=c.length-1:=by omega
   have e0:¬ y<(nth c 0).y:=h1;have e1:(nth c 0).y≤y:=by omega
   rw[sb]at hq;simp (disch:=omega) [-getElem?_pos,wrap64,bf (l:=c),h4,h5,e0,e1];rw[←hq];rfl)
def j7(r:Rs)(v:Int):Int:=if v<(nth r.c 0).y then (nth r.c 0).x else yO r.c v
theorem arX{r:Rs}(h:iy r=0)(v:Int)(G:List aS):aZ F 163 [.agg r.cells,i64 v] G=some (i64 (j7 r v),G) :=
 bM rfl rfl (by
  have hp:=(mQ (tP h)).pos;by_cases h1:v<(nth r.c 0).y
  ·have h2:¬ (nth r.c 0).y≤v:=by omega
   simp[-getElem?_pos,wrap64,R9,aeh (tP h),h1,h2,bf (l:=r.c),hp,j7]
  ·have h2:(nth r.c 0).y≤v:=by omega
   simp[-getElem?_pos,wrap64,R9,aeh (tP h),h1,h2,bf (l:=r.c),hp,j7])
structure Rt where
 lv:Int
 c:List Pt
 deriving Inhabited
abbrev Rt.row(r:Rt):List V:=[i64 r.lv,iM r.c]
abbrev DH(l:List Rt):V:=.slice none 2 (l.map Rt.row)
structure Gt where
 r:List Rt
 di:Int
 move:Int
 deriving Inhabited
abbrev Gt.row(g:Gt):List V:=[DH g.r,i64 g.di,i64 g.move]
abbrev gt(g:Gt):V:=.agg g.row
def pz(l:List Rt)(i:Nat):Int :=
 if ¬(0≤(nth l i).lv∧(nth l i).lv≤16777216) then 1
 else if 0<i∧(nth l i).lv≤(nth l (i-1)).lv then 4
 else if gB (nth l i).c≠0 then gB (nth l i).c
 else if ¬((nth (nth l i).c 0).x=0∧(nth (nth l i).c 0).y=0) then 3
 else if 1073741824<(nth (nth l i).c ((nth l i).c.length-1)).y then 1 else 0
def kL(g:Gt):Int :=
 if g.r.length=0 then 3 else if 10<g.r.length then 10 else if dH (pz g.r) g.r.length 0≠0 then dH (pz g.r) g.r.length 0
 else if ¬((0≤g.di∧g.di≤1000)∧0≤g.move∧g.move≤1000) then 1 else 0
theorem BT(g:Gt)(G:List aS):aZ F 153 [gt g] G=some (i64 (kL g),G) :=
 bM rfl rfl (by
  obtain⟨l,di,move⟩:=g;generalize hW:kL ⟨l,di,move⟩=W;unfold kL at hW;simp only at hW;simp (disch:=omega) [-getElem?_pos,-Int.natCast_eq_zero,wrap64,abK];refine bT (fun h1=>?_) (fun h1=>bT (fun h2=>?_) (fun h2=>?_))
  ·rw[aM (by omega)]at hW
   exact hW
  ·rw[ay (by omega),aM (by omega)]at hW
   exact hW
  ·rw[ay (by omega),ay (by omega)]at hW
   refine go_loop (fun i:Nat=>ao0 (DH l) l.length i [DH l,i64 di,i64 move] G) (fun i=>i≤l.length∧dH (pz l) (l.length-i) i=dH (pz l) l.length 0) (fun i=>l.length-i) 0 rfl (by simp) ⟨by omega,rfl⟩ ?_
   rintro i ⟨hi,hq⟩;simp (disch:=omega) [-getElem?_pos,-Int.natCast_eq_zero,wrap64,abJ];refine bT (fun h3=>?_) (fun h3=>?_)
   ·have h3:i<l.length:=by omega
    have h4:((i:Int)-1).toNat=i-1:=by omega
    rw[kZ h3]at hq;have stop:pz l i≠0→W=pz l i:=fun h=>by
     rw[ay h]at hq;rw[←hq,aM h]at hW;exact hW.symm
    unfold pz at stop;by_cases a1:0≤(nth l i).lv∧(nth l i).lv≤16777216
    ·have a2:(!decide (0≤(nth l i).lv) || !decide ((nth l i).lv≤16777216))=false:=by simp;omega
     have a3:0<i→0≤(i:Int)-1:=by omega
     have a4:i-1<l.length:=by omega
     rw[ay (by omega)]at stop
     by_cases b1:0<i∧(nth l i).lv≤(nth l (i-1)).lv
     ·rw[aM b1]at stop
      have b2:0<i:=b1.1;have b3:=b1.2;have b4:0≤(i:Int)-1:=by omega
      simp (disch:=omega) [-getElem?_pos,-Int.natCast_eq_zero,wrap64,bf (l:=l),h3,dJ,c7,a2,b2,b3,b4,h4,a4];exact(stop (by omega)).symm
     ·rw[ay b1]at stop
      by_cases c1:gB (nth l i).c=0
      ·rw[ay (by omega)]at stop
       have hp:=uK c1;have hfw:=(mQ c1).kH;have c2:(((nth l i).c.length:Int)-1).toNat=(nth l i).c.length-1:=by omega
       have c3:(nth l i).c.length-1<(nth l i).c.length:=by omega
       have c4:0≤((nth l i).c.length:Int)-1:=by omega
       by_cases d1:(nth (nth l i).c 0).x=0∧(nth (nth l i).c 0).y=0
       ·rw[ay (by omega)]at stop
        obtain⟨d2,d3⟩:=d1;by_cases e1:1073741824<(nth (nth l i).c ((nth l i).c.length-1)).y
        ·rw[aM e1]at stop
         rcases mq i with b6|b6
         ·subst b6
          simp (disch:=omega) [-getElem?_pos,-Int.natCast_eq_zero,wrap64,bf (l:=l),h3,dJ,c7,oG,mz,a2,c1,V.iE,eC,jW,bf (l:=(nth l 0).c),hp,c2,c3,c4,d2,d3,e1];exact(stop (by omega)).symm
         ·have b7:¬ (nth l i).lv≤(nth l (i-1)).lv:=fun h=>b1 ⟨b6,h⟩
          have b4:0≤(i:Int)-1:=by omega
          simp (disch:=omega) [-getElem?_pos,-Int.natCast_eq_zero,wrap64,bf (l:=l),h3,dJ,c7,oG,mz,a2,c1,b6,b7,b4,h4,a4,V.iE,eC,jW,bf (l:=(nth l i).c),hp,c2,c3,c4,d2,d3,e1];exact(stop (by omega)).symm
        ·have hz:pz l i=0:=by
          unfold pz;rw[ay (by omega),ay b1,ay (by omega),ay (by omega),ay e1]
         rw[aM hz]at hq;rcases mq i with b6|b6
         ·subst b6
          simp (disch:=omega) [-getElem?_pos,-Int.natCast_eq_zero,wrap64,bf (l:=l),h3,dJ,c7,oG,mz,a2,c1,V.iE,eC,jW,bf (l:=(nth l 0).c),hp,c2,c3,c4,d2,d3,e1];exact bP (0+1) (by simp) ⟨by omega,hq⟩ (by omega)
         ·have b7:¬ (nth l i).lv≤(nth l (i-1)).lv:=fun h=>b1 ⟨b6,h⟩
          have b4:0≤(i:Int)-1:=by omega
          simp (disch:=omega) [-getElem?_pos,-Int.natCast_eq_zero,wrap64,bf (l:=l),h3,dJ,c7,oG,mz,a2,c1,b6,b7,b4,h4,a4,V.iE,eC,jW,bf (l:=(nth l i).c),hp,c2,c3,c4,d2,d3,e1];exact bP (i+1) (by simp) ⟨by omega,hq⟩ (by omega)
       ·rw[aM d1]at stop
        have d4:(decide ((nth (nth l i).c 0).x=0)&&decide ((nth (nth l i).c 0).y=0))=false:=by simpa using d1
        have d5:((nth (nth l i).c 0).x==0&&(nth (nth l i).c 0).y==0)=false:=by simpa using d1
        rcases mq i with b6|b6
        ·subst b6
         simp (disch:=omega) [-getElem?_pos,-Int.natCast_eq_zero,wrap64,bf (l:=l),h3,dJ,c7,oG,mz,a2,c1,V.iE,eC,jW,bf (l:=(nth l 0).c),hp,d4,d5];exact(stop (by omega)).symm
        ·have b7:¬ (nth l i).lv≤(nth l (i-1)).lv:=fun h=>b1 ⟨b6,h⟩
         have b4:0≤(i:Int)-1:=by omega
         simp (disch:=omega) [-getElem?_pos,-Int.natCast_eq_zero,wrap64,bf (l:=l),h3,dJ,c7,oG,mz,a2,c1,b6,b7,b4,h4,a4,V.iE,eC,jW,bf (l:=(nth l i).c),hp,d4,d5];exact(stop (by omega)).symm
      ·rw[aM c1]at stop
       rcases mq i with b6|b6
       ·subst b6
        simp (disch:=omega) [-getElem?_pos,-Int.natCast_eq_zero,wrap64,bf (l:=l),h3,dJ,c7,oG,mz,a2,c1,c1];exact(stop (by omega)).symm
       ·have b7:¬ (nth l i).lv≤(nth l (i-1)).lv:=fun h=>b1 ⟨b6,h⟩
        have b4:0≤(i:Int)-1:=by omega
        simp (disch:=omega) [-getElem?_pos,-Int.natCast_eq_zero,wrap64,bf (l:=l),h3,dJ,c7,oG,mz,a2,c1,b6,b7,b4,h4,a4,c1];exact(stop (by omega)).symm
    ·rw[aM a1]at stop
     have a2:(!decide (0≤(nth l i).lv) || !decide ((nth l i).lv≤16777216))=true:=by simp;omega
     simp (disch:=omega) [-getElem?_pos,-Int.natCast_eq_zero,wrap64,bf (l:=l),h3,dJ,c7,a2];exact(stop (by omega)).symm
   ·obtain rfl:i=l.length:=by omega
    rw[mO]at hq;rw[←hq,ay (by omega)]at hW
    by_cases m1:0≤di∧di≤1000
    ·have m2:(!decide (0≤di) || !decide (di≤1000))=false:=by simp;omega
     by_cases m3:0≤move∧move≤1000
     ·have m4:(!decide (0≤move) || !decide (move≤1000))=false:=by simp;omega
      rw[ay (by omega)]at hW
      simp (disch:=omega) [-getElem?_pos,-Int.natCast_eq_zero,wrap64,dJ,c7,m2,m4];exact hW
     ·have m4:(!decide (0≤move) || !decide (move≤1000))=true:=by simp;omega
      rw[aM (by omega)]at hW
      simp (disch:=omega) [-getElem?_pos,-Int.natCast_eq_zero,wrap64,dJ,c7,m2,m4];exact hW
    ·have m2:(!decide (0≤di) || !decide (di≤1000))=true:=by simp;omega
     rw[aM (by omega)]at hW
     simp (disch:=omega) [-getElem?_pos,-Int.natCast_eq_zero,wrap64,dJ,c7,m2];exact hW)
theorem BU(g:Gt)(G:List aS):aZ F 133 [gt g] G=some (i64 (kL g),G) :=
 bM rfl rfl (by
  obtain⟨l,di,move⟩:=g;generalize hW:kL ⟨l,di,move⟩=W;unfold kL at hW;simp only at hW;simp (disch:=omega) [-getElem?_pos,-Int.natCast_eq_zero,wrap64,abj];refine bT (fun h1=>?_) (fun h1=>bT (fun h2=>?_) (fun h2=>?_))
  ·rw[aM (by omega)]at hW
   exact hW
  ·rw[ay (by omega),aM (by omega)]at hW
   exact hW
  ·rw[ay (by omega),ay (by omega)]at hW
   refine go_loop (fun i:Nat=>aor (DH l) l.length i [DH l,i64 di,i64 move] G) (fun i=>i≤l.length∧dH (pz l) (l.length-i) i=dH (pz l) l.length 0) (fun i=>l.length-i) 0 rfl (by simp) ⟨by omega,rfl⟩ ?_
   rintro i ⟨hi,hq⟩;simp (disch:=omega) [-getElem?_pos,-Int.natCast_eq_zero,wrap64,abi];refine bT (fun h3=>?_) (fun h3=>?_)
   ·have h3:i<l.length:=by omega
    have h4:((i:Int)-1).toNat=i-1:=by omega
    rw[kZ h3]at hq;have stop:pz l i≠0→W=pz l i:=fun h=>by
     rw[ay h]at hq;rw[←hq,aM h]at hW;exact hW.symm
    unfold pz at stop;by_cases a1:0≤(nth l i).lv∧(nth l i).lv≤16777216
    ·have a2:(!decide (0≤(nth l i).lv) || !decide ((nth l i).lv≤16777216))=false:=by simp;omega
     have a3:0<i→0≤(i:Int)-1:=by omega
     have a4:i-1<l.length:=by omega
     rw[ay (by omega)]at stop
     by_cases b1:0<i∧(nth l i).lv≤(nth l (i-1)).lv
     ·rw[aM b1]at stop
      have b2:0<i:=b1.1;have b3:=b1.2;have b4:0≤(i:Int)-1:=by omega
      simp (disch:=omega) [-getElem?_pos,-Int.natCast_eq_zero,wrap64,bf (l:=l),h3,dJ,c7,a2,b2,b3,b4,h4,a4];exact(stop (by omega)).symm
     ·rw[ay b1]at stop
      by_cases c1:gB (nth l i).c=0
      ·rw[ay (by omega)]at stop
       have hp:=uK c1;have hfw:=(mQ c1).kH;have c2:(((nth l i).c.length:Int)-1).toNat=(nth l i).c.length-1:=by omega
       have c3:(nth l i).c.length-1<(nth l i).c.length:=by omega
       have c4:0≤((nth l i).c.length:Int)-1:=by omega
       by_cases d1:(nth (nth l i).c 0).x=0∧(nth (nth l i).c 0).y=0
       ·rw[ay (by omega)]at stop
        obtain⟨d2,d3⟩:=d1;by_cases e1:1073741824<(nth (nth l i).c ((nth l i).c.length-1)).y
        ·rw[aM e1]at stop
         rcases mq i with b6|b6
         ·subst b6
          simp (disch:=omega) [-getElem?_pos,-Int.natCast_eq_zero,wrap64,bf (l:=l),h3,dJ,c7,oG,mz,a2,c1,V.iE,eC,jW,bf (l:=(nth l 0).c),hp,c2,c3,c4,d2,d3,e1];exact(stop (by omega)).symm
         ·have b7:¬ (nth l i).lv≤(nth l (i-1)).lv:=fun h=>b1 ⟨b6,h⟩
          have b4:0≤(i:Int)-1:=by omega
          simp (disch:=omega) [-getElem?_pos,-Int.natCast_eq_zero,wrap64,bf (l:=l),h3,dJ,c7,oG,mz,a2,c1,b6,b7,b4,h4,a4,V.iE,eC,jW,bf (l:=(nth l i).c),hp,c2,c3,c4,d2,d3,e1];exact(stop (by omega)).symm
        ·have hz:pz l i=0:=by
          unfold pz;rw[ay (by omega),ay b1,ay (by omega),ay (by omega),ay e1]
         rw[aM hz]at hq;rcases mq i with b6|b6
         ·subst b6
          simp (disch:=omega) [-getElem?_pos,-Int.natCast_eq_zero,wrap64,bf (l:=l),h3,dJ,c7,oG,mz,a2,c1,V.iE,eC,jW,bf (l:=(nth l 0).c),hp,c2,c3,c4,d2,d3,e1];exact bP (0+1) (by simp) ⟨by omega,hq⟩ (by omega)
         ·have b7:¬ (nth l i).lv≤(nth l (i-1)).lv:=fun h=>b1 ⟨b6,h⟩
          have b4:0≤(i:Int)-1:=by omega
          simp (disch:=omega) [-getElem?_pos,-Int.natCast_eq_zero,wrap64,bf (l:=l),h3,dJ,c7,oG,mz,a2,c1,b6,b7,b4,h4,a4,V.iE,eC,jW,bf (l:=(nth l i).c),hp,c2,c3,c4,d2,d3,e1];exact bP (i+1) (by simp) ⟨by omega,hq⟩ (by omega)
       ·rw[aM d1]at stop
        have d4:(decide ((nth (nth l i).c 0).x=0)&&decide ((nth (nth l i).c 0).y=0))=false:=by simpa using d1
        have d5:((nth (nth l i).c 0).x==0&&(nth (nth l i).c 0).y==0)=false:=by simpa using d1
        rcases mq i with b6|b6
        ·subst b6
         simp (disch:=omega) [-getElem?_pos,-Int.natCast_eq_zero,wrap64,bf (l:=l),h3,dJ,c7,oG,mz,a2,c1,V.iE,eC,jW,bf (l:=(nth l 0).c),hp,d4,d5];exact(stop (by omega)).symm
        ·have b7:¬ (nth l i).lv≤(nth l (i-1)).lv:=fun h=>b1 ⟨b6,h⟩
         have b4:0≤(i:Int)-1:=by omega
         simp (disch:=omega) [-getElem?_pos,-Int.natCast_eq_zero,wrap64,bf (l:=l),h3,dJ,c7,oG,mz,a2,c1,b6,b7,b4,h4,a4,V.iE,eC,jW,bf (l:=(nth l i).c),hp,d4,d5];exact(stop (by omega)).symm
      ·rw[aM c1]at stop
       rcases mq i with b6|b6
       ·subst b6
        simp (disch:=omega) [-getElem?_pos,-Int.natCast_eq_zero,wrap64,bf (l:=l),h3,dJ,c7,oG,mz,a2,c1,c1];exact(stop (by omega)).symm
       ·have b7:¬ (nth l i).lv≤(nth l (i-1)).lv:=fun h=>b1 ⟨b6,h⟩
        have b4:0≤(i:Int)-1:=by omega
        simp (disch:=omega) [-getElem?_pos,-Int.natCast_eq_zero,wrap64,bf (l:=l),h3,dJ,c7,oG,mz,a2,c1,b6,b7,b4,h4,a4,c1];exact(stop (by omega)).symm
    ·rw[aM a1]at stop
     have a2:(!decide (0≤(nth l i).lv) || !decide ((nth l i).lv≤16777216))=true:=by simp;omega
     simp (disch:=omega) [-getElem?_pos,-Int.natCast_eq_zero,wrap64,bf (l:=l),h3,dJ,c7,a2];exact(stop (by omega)).symm
   ·obtain rfl:i=l.length:=by omega
    rw[mO]at hq;rw[←hq,ay (by omega)]at hW
    by_cases m1:0≤di∧di≤1000
    ·have m2:(!decide (0≤di) || !decide (di≤1000))=false:=by simp;omega
     by_cases m3:0≤move∧move≤1000
     ·have m4:(!decide (0≤move) || !decide (move≤1000))=false:=by simp;omega
      rw[ay (by omega)]at hW
      simp (disch:=omega) [-getElem?_pos,-Int.natCast_eq_zero,wrap64,dJ,c7,m2,m4];exact hW
     ·have m4:(!decide (0≤move) || !decide (move≤1000))=true:=by simp;omega
      rw[aM (by omega)]at hW
      simp (disch:=omega) [-getElem?_pos,-Int.natCast_eq_zero,wrap64,dJ,c7,m2,m4];exact hW
    ·have m2:(!decide (0≤di) || !decide (di≤1000))=true:=by simp;omega
     rw[aM (by omega)]at hW
     simp (disch:=omega) [-getElem?_pos,-Int.natCast_eq_zero,wrap64,dJ,c7,m2];exact hW)
def j8(u:Un)(s:Us)(q:Int):Prop:=fc u s∧km u s q
noncomputable instance {u:Un} {s:Us} {q:Int}:Decidable (j8 u s q):=by unfold j8;infer_instance
def iO(s:Us)(q:Int):Int:=if 0<q∧s.cn=0 then 1 else 0
noncomputable def Au:List Un→List Us→List Int→Int×Int×Int→Option (Int×Int×Int)
 |u::us,s::ss,f::fs,a=>if j8 u s f then Au us ss fs (a.1+f,a.2.1+pow u f,a.2.2+iO s f) else none
 |_,_,_,a=>some a
noncomputable def DI(us:List Un)(ss:List Us)(fs:List Int):Option (Int×Int×Int):=if us.length=ss.length∧us.length=fs.length then Au us ss fs (0,0,0) else none
def FN:Option (Int×Int×Int)→V
 |some (a,b,c)=>.tuple [i64 a,i64 b,i64 c,.bool true]
 |none=>.tuple [i64 0,i64 0,i64 0,.bool false]
theorem MV{u:Un}{s:Us}{q:Int}(h:j8 u s q):0≤q∧q≤1073741824:=by
 obtain⟨⟨hc,_⟩,h2⟩:=h;have hu:=qG hc;have:=hu.least;have:=hu.SV;unfold km at h2;split at h2
 ·omega
 ·have a:=h2.2.2.1
  have b:=h2.2.2.2.1;omega
theorem MW{u:Un}{q:Int}:0≤pow u q∧pow u q≤1073741824:=by
 unfold pow;split
 ·rename_i h
  have hu:=qG h.1;have hp:=hu.cv.pos;have a:=FG hu.cv q;have b:=hu.top;have c:=(hu.cv.y0 0 (by omega)).1
  omega
 ·omega
theorem To{s:Us}{q:Int}:0≤iO s q∧iO s q≤1:=by unfold iO;split<;>omega
theorem aej(us:List Un)(ss:List Us)(fs:List Int)(hn:us.length≤1000)(G:List aS):aZ F 144 [kJ us,kn ss,ints fs] G=some (FN (DI us ss fs),G) :=
 bM rfl rfl (by
  generalize hW:FN (DI us ss fs)=W;unfold DI at hW;by_cases h1:us.length=ss.length
  ·by_cases h2:us.length=fs.length
   ·rw[aM ⟨h1,h2⟩]at hW
    simp +contextual (disch:=omega) [-getElem?_pos,wrap64,Mo,← h1,← h2];refine go_loop (fun x:Nat×Int×Int×Int=>aoD (kn ss) (ints fs) x.2.1 x.2.2.1 x.2.2.2 (kJ us) us.length x.1 G)
     (fun x=>x.1≤us.length∧FN (Au (us.drop x.1) (ss.drop x.1) (fs.drop x.1) (x.2.1,x.2.2.1,x.2.2.2))=W∧(0≤x.2.1∧x.2.1≤1073741824*(x.1:Int))∧(0≤x.2.2.1∧x.2.2.1≤1073741824*(x.1:Int))∧0≤x.2.2.2∧x.2.2.2≤x.1) (fun x=>us.length-x.1) (0,0,0,0) rfl (by simp) (by simpa using hW) ?_
    rintro⟨i,a,b,c⟩ ⟨hi,hq,ha,hb,hc⟩;simp only at hi hq ha hb hc;simp +contextual (disch:=omega) [-getElem?_pos,wrap64,abw];refine bT (fun h4=>?_) (fun h4=>?_)
    ·have h4:i<us.length:=by omega
     have h5:i<ss.length:=by omega
     have h6:i<fs.length:=by omega
     rw[sN h4,sN h5,sN h6,Au]at hq;by_cases h7:j8 (nth us i) (nth ss i) (nth fs i)
     ·rw[aM h7]at hq
      have r1:=MV h7;have r2:=MW (u:=nth us i) (q:=nth fs i);have r3:=To (s:=nth ss i) (q:=nth fs i);have h8:decide (fc (nth us i) (nth ss i)∧km (nth us i) (nth ss i) (nth fs i))=true:=jf h7;simp only at hq;have Tp:i+1≤us.length∧FN (Au (us.drop (i+1)) (ss.drop (i+1)) (fs.drop (i+1)) (a+nth fs i,b+pow (nth us i) (nth fs i),c+iO (nth ss i) (nth fs i)))=W ∧
        (0≤a+nth fs i∧a+nth fs i≤1073741824*((i+1:Nat):Int))∧(0≤b+pow (nth us i) (nth fs i)∧b+pow (nth us i) (nth fs i)≤1073741824*((i+1:Nat):Int))∧0≤c+iO (nth ss i) (nth fs i)∧c+iO (nth ss i) (nth fs i)≤(i+1:Nat) :=
       ⟨by omega,hq,by omega,by omega,by omega⟩
      have hN:=S4 (nth us i) (nth ss i) (nth fs i) [];have e:tL (nth us i) (nth ss i) (nth fs i)=0:=by
       obtain⟨⟨q1,q2⟩,q3⟩:=h7;simp[tL,q1,q3,show fc (nth us i) (nth ss i) from⟨q1,q2⟩]
      simp only[e,if_true]at hN;by_cases h9:0<nth fs i
      ·by_cases gx:(nth ss i).cn=0
       ·have lu:iO (nth ss i) (nth fs i)=1:=by simp[iO,h9,gx]
        simp +contextual (disch:=omega) [-getElem?_pos,wrap64,bf (l:=us),bf (l:=ss),ei,hN,SZ,h9];simp +contextual (disch:=omega) [-getElem?_pos,wrap64,gx];exact bP (i+1,a+nth fs i,b+pow (nth us i) (nth fs i),c+iO (nth ss i) (nth fs i)) (by simp[lu]) Tp (by simp;omega)
       ·have lu:iO (nth ss i) (nth fs i)=0:=by simp[iO,gx]
        simp +contextual (disch:=omega) [-getElem?_pos,wrap64,bf (l:=us),bf (l:=ss),ei,hN,SZ,h9];simp +contextual (disch:=omega) [-getElem?_pos,wrap64,gx];exact bP (i+1,a+nth fs i,b+pow (nth us i) (nth fs i),c+iO (nth ss i) (nth fs i)) (by simp[lu]) Tp (by simp;omega)
      ·have lu:iO (nth ss i) (nth fs i)=0:=by simp[iO,h9]
       simp +contextual (disch:=omega) [-getElem?_pos,wrap64,bf (l:=us),bf (l:=ss),ei,hN,SZ,h9];exact bP (i+1,a+nth fs i,b+pow (nth us i) (nth fs i),c+iO (nth ss i) (nth fs i)) (by simp[lu]) Tp (by simp;omega)
     ·rw[ay h7]at hq
      have hN:=S4 (nth us i) (nth ss i) (nth fs i) [];have e:¬tL (nth us i) (nth ss i) (nth fs i)=0:=fun e=>by
       unfold tL at e;split at e
       ·contradiction
       ·split at e
        ·cases e
        ·split at e
         ·cases e
         ·rename_i a1 a2 a3
          exact h7 ⟨g7 a2,g7 a3⟩
      simp only[e,if_false]at hN;simp +contextual (disch:=omega) [-getElem?_pos,wrap64,bf (l:=us),bf (l:=ss),ei,hN,e];exact hq
    ·obtain rfl:i=us.length:=by omega
     rw[AV,Au]at hq
     ·exact hq
     ·intro u nP s ss' f fs' e;cases e
   ·rw[ay (fun h=>h2 h.2)]at hW
    have h3:¬ss.length=fs.length:=by omega
    simp +contextual (disch:=omega) [-getElem?_pos,wrap64,Mo,h1];refine gY (fun h=>?_) (fun h=>?_)
    ·exact hW
    ·simp[-List.length_eq_zero_iff,-Int.natCast_eq_zero]at h
     omega
  ·rw[ay (fun h=>h1 h.1)]at hW
   simp +contextual (disch:=omega) [-getElem?_pos,wrap64,Mo];refine gY (fun h=>?_) (fun h=>?_)
   ·exact hW
   ·simp[-List.length_eq_zero_iff,-Int.natCast_eq_zero]at h
    omega)
noncomputable def rH(u:Un)(s:Us)(g:Int):List Int:=(dedup (ox (fm u g++[0,s.cn]))).filter fun q=>decide (j8 u s q)
noncomputable abbrev MX(u:Un)(s:Us)(q:Int):List V:=[i64 q,i64 (pow u q),i64 (iO s q)]
theorem kq{α:Type}[Inhabited α]{l:List α}{i:Nat}(h:i<l.length):l.take (i+1)=l.take i++[nth l i]:=by
 rw[xX,bf h];rfl
theorem rI{α:Type}[Inhabited α]{l m:List α}{i:Nat}(h:i<l.length):nth (l++m) i=nth l i:=by
 simp[nth,oQ,h]
theorem aek{u:Un}{s:Us}{L Z:List Int}{G:List aS}{K:cE}(hL:L.length≤4294967296)
  (hK:∀z,K (.exit 0) ⟨[(3,.bJ 3 0),(4,.bJ 4 0),(10,.slice (some 1061) 3 ((L.filter fun q=>decide (j8 u s q)).map (MX u s))),(30,.bR 20026 1 L.length),(31,i64 L.length),(32,i64 L.length),(33,z)],[(3,u.row),(4,s.row),(20026,dD (L++Z))],[(1061,(L.filter fun q=>decide (j8 u s q)).length)],G⟩) :
  go (aZ F) adm ⟨[(3,.bJ 3 0),(4,.bJ 4 0),(10,.cb),(30,.bR 20026 1 L.length),(31,i64 L.length),(32,i64 0)],[(3,u.row),(4,s.row),(20026,dD (L++Z))],[],G⟩ K:=by
 refine go_loop (fun i:Nat=>aqp (.slice (some 1061) 3 (((L.take i).filter fun q=>decide (j8 u s q)).map (MX u s))) L.length L.length i u.row s.row (dD (L++Z)) ((L.take i).filter fun q=>decide (j8 u s q)).length G) (fun i=>i≤L.length) (fun i=>L.length-i) 0 rfl (by simp) (by omega) ?_
 intro i hi;have hlen:((L.take i).filter fun q=>decide (j8 u s q)).length≤i:=iQ (u5 _ _) (by simp;omega)
 simp (disch:=omega) [wrap64,adl];refine bT (fun h1=>?_) (fun h1=>?_)
 ·have h1:i<L.length:=by omega
  have h2:i<(L++Z).length:=by simp;omega
  have hM:=aq9 u s (nth L i) [];by_cases h3:j8 u s (nth L i)
  ·have h4:decide (fc u s∧km u s (nth L i))=true:=jf h3
   rw[h4]at hM;have h5:(L.take (i+1)).filter (fun q=>decide (j8 u s q))=(L.take i).filter (fun q=>decide (j8 u s q))++[nth L i]:=by
    rw[kq h1,uZ];simp[h3]
   by_cases h6:0<nth L i
   ·by_cases h7:s.cn=0
    ·have h8:iO s (nth L i)=1:=by simp[iO,h6,h7]
     simp (disch:=omega) [wrap64,l8 h2,rI h1,hM,Jb,h6];simp (disch:=omega) [wrap64,h7];exact bP (i+1) (by rw[h5];simp[h8]) (by omega) (by omega)
    ·have h8:iO s (nth L i)=0:=by simp[iO,h7]
     simp (disch:=omega) [wrap64,l8 h2,rI h1,hM,Jb,h6];simp (disch:=omega) [wrap64,h7];exact bP (i+1) (by rw[h5];simp[h8]) (by omega) (by omega)
   ·have h8:iO s (nth L i)=0:=by simp[iO,h6]
    simp (disch:=omega) [wrap64,l8 h2,rI h1,hM,Jb,h6];exact bP (i+1) (by rw[h5];simp[h8]) (by omega) (by omega)
  ·have h4:decide (fc u s∧km u s (nth L i))=false:=decide_eq_false h3
   rw[h4]at hM;have h5:(L.take (i+1)).filter (fun q=>decide (j8 u s q))=(L.take i).filter (fun q=>decide (j8 u s q)):=by
    rw[kq h1,uZ];simp[h3]
   simp (disch:=omega) [wrap64,l8 h2,rI h1,hM];exact bP (i+1) (by rw[h5];simp) (by omega) (by omega)
 ·obtain rfl:i=L.length:=by omega
  rw[na];exact hK _
theorem arZ{u:Un}{s:Us}(hv:fc u s){g:Int}(hg:1≤g∧g≤1073741824)(G:List aS):aZ F 252 [un u,us s,i64 g] G =
  some (if gN u g=0 then .tuple [.slice (some 0) 3 ((rH u s g).map (MX u s)),.bool true] else .tuple [.slice (some 0) 3 [],.bool false],G) :=
 bM rfl rfl (by
  by_cases he:gN u g=0
  ·have hlen:(fm u g).length≤200:=by
    unfold gN at he;split at he
    ·contradiction
    ·split at he
     ·cases he
     ·split at he
      ·cases he
      ·omega
   have hf:oH u g=fm u g:=by simp[oH,he]
   have hd:=Fo (ox (fm u g++[0,s.cn]));have hs:=(BH (fm u g++[0,s.cn])).length_eq;simp at hs;have hm:vn 1 (ox (fm u g++[0,s.cn]))=dedup (ox (fm u g++[0,s.cn]))++List.replicate ((ox (fm u g++[0,s.cn])).length-(dedup (ox (fm u g++[0,s.cn]))).length) 0:=rfl;have Iv:∀l,vn 0 l=ox l:=fun _=>rfl;have hc:(rH u s g)=(dedup (ox (fm u g++[0,s.cn]))).filter fun q=>decide (j8 u s q):=rfl;rw[aM he,hc];have ha:∀l:List Int,dD l++[i64 0,i64 s.cn]=dD (l++[0,s.cn]):=fun l=>by simp[dD]
   have hz:[i64 0,i64 s.cn]=dD [0,s.cn]:=rfl;have qq:(fm u g).length+2=(fm u g++[0,s.cn]).length:=by simp
   have CZ:(ox (fm u g++[0,s.cn])).length=(fm u g++[0,s.cn]).length:=(BH _).length_eq;by_cases hn:fm u g=[]
   ·rw[hn]at hm hd hs hf CZ ⊢
    simp only[Eg]at hm hd hs CZ ⊢;have e1:kz 20026 0 (.tuple [own [],i64 0])=some (.tuple [.dY 1,i64 0],none):=rfl;have h2:2=(ox [0,s.cn]).length:=by rw[CZ];rfl
    simp (disch:=omega) [wrap64,MC,S9,he,hf,e1,hz,L0 (zs:=[0,s.cn]) (n:=2) rfl (by omega),Iv,L0 h2 (by omega),hm]
    refine aek (u:=u) (s:=s) (L:=dedup (ox [0,s.cn])) (by omega) fun z=>?_
    simp (disch:=omega) [wrap64,wrap64]
   ·have e1:=alm (id:=20026) (t:=0) (e:=0) hn
    rw[←qq]at CZ;simp (disch:=omega) [wrap64,MC,S9,he,hf,e1,ha,L0 qq (by omega),Iv,L0 CZ.symm (by omega),hm]
    refine aek (u:=u) (s:=s) (L:=dedup (ox (fm u g++[0,s.cn]))) (by omega) fun z=>?_
    simp (disch:=omega) [wrap64,wrap64]
  ·rw[ay he]
   have hf:oH u g=[]:=by simp[oH,he]
   have e1:kz 20026 0 (.tuple [own [],i64 (gN u g)])=some (.tuple [.dY 1,i64 (gN u g)],none):=rfl;simp (disch:=omega) [wrap64,MC,S9,he,hf,e1])
def DJ(us:List Un)(ss:List Us):Prop:=∀i,i<us.length→fc (nth us i) (nth ss i)
noncomputable instance {us:List Un} {ss:List Us}:Decidable (DJ us ss):=Classical.propDecidable _
def DK(us:List Un)(g:Int):Prop:=∀i,i<us.length→gN (nth us i) g=0
noncomputable instance {us:List Un} {g:Int}:Decidable (DK us g):=Classical.propDecidable _
noncomputable def rJ(us:List Un)(ss:List Us)(g release:Int):Int :=
 if 6<us.length then 10 else if us.length≠ss.length then 3 else if ¬DJ us ss then 3
 else if g<1∨1073741824<g∨release<0∨1073741824<release then 1 else if 200*g<release then 10 else if ¬DK us g then 10 else 0
noncomputable abbrev Jk(g:Int)(u:Un)(s:Us):List V:=[.slice none 3 ((rH u s g).map (MX u s))]
theorem Av{α β γ:Type}[Inhabited α][Inhabited β]{f:α→β→γ}{a:List α}{b:List β}{i:Nat}(h1:i<a.length)(h2:i<b.length) :
  List.zipWith f (a.take (i+1)) (b.take (i+1))=List.zipWith f (a.take i) (b.take i)++[f (nth a i) (nth b i)]:=by
 rw[kq h1,kq h2,List.zipWith_append (by simp;omega)]
 rfl
theorem ar0(us:List Un)(ss:List Us)(g release:Int)(G:List aS):aZ F 244 [kJ us,kn ss,i64 g,i64 release] G =
  some (.tuple [.slice (some 0) 1 (if rJ us ss g release=0 then List.zipWith (Jk g) us ss else []),i64 (rJ us ss g release)],G) :=
 bM rfl rfl (by
  generalize hE:rJ us ss g release=E;generalize hW:V.tuple [.slice (some 0) 1 (if E=0 then List.zipWith (Jk g) us ss else []),i64 E]=W
  unfold rJ at hE;simp +contextual (disch:=omega) [-getElem?_pos,wrap64,ade];refine bT (fun h1=>?_) (fun h1=>gY (fun h2=>?_) (fun h2=>?_))
  ·rw[aM (by omega)]at hE
   subst hE;exact hW
  ·simp[-List.length_eq_zero_iff,-Int.natCast_eq_zero]at h2
   rw[ay (by omega),aM (by omega)]at hE
   subst hE;exact hW
  ·simp[-List.length_eq_zero_iff,-Int.natCast_eq_zero]at h2
   have hl:us.length=ss.length:=by omega
   rw[ay (by omega),ay (by omega)]at hE
   refine go_loop (fun i:Nat=>aqd (kJ us) (kn ss) g release (kJ us) us.length i G) (fun i=>i≤us.length∧∀j,j<i→fc (nth us j) (nth ss j)) (fun i=>us.length-i) 0 rfl (by simp) ⟨by omega,by omega⟩ ?_
   rintro i ⟨hi,hv⟩;simp +contextual (disch:=omega) [-getElem?_pos,wrap64,ada];refine bT (fun h3=>?_) (fun h3=>?_)
   ·have h3:i<us.length:=by omega
    by_cases h4:fc (nth us i) (nth ss i)
    ·simp +contextual (disch:=omega) [-getElem?_pos,wrap64,bf (l:=us),bf (l:=ss),BN,h4]
     refine bP (i+1) (by simp) ⟨by omega,fun j hj=>?_⟩ (by omega)
     rcases cF j i with h5|h5
     ·exact hv j h5
     ·rwa [show j=i by omega]
    ·rw[aM (fun h=>h4 (h i h3))]at hE
     subst hE;simp +contextual (disch:=omega) [-getElem?_pos,wrap64,bf (l:=us),bf (l:=ss),BN,h4];exact hW
   ·obtain rfl:i=us.length:=by omega
    rw[ay (fun h=>h hv)]at hE;by_cases h5:g<1∨1073741824<g
    ·rw[aM (by omega)]at hE
     subst hE;have h6:(decide (g<1) || decide (1073741824<g))=true:=by simpa using h5
     simp +contextual (disch:=omega) [-getElem?_pos,wrap64,dJ,h6];exact hW
    ·have h6:(decide (g<1) || decide (1073741824<g))=false:=by simpa using h5
     by_cases h7:release<0∨1073741824<release
     ·rw[aM (by omega)]at hE
      subst hE;have h8:(!decide (0≤release) || !decide (release≤1073741824))=true:=by simp;omega
      simp +contextual (disch:=omega) [-getElem?_pos,wrap64,dJ,h6,h8];exact hW
     ·rw[ay (by omega)]at hE
      have h8:(!decide (0≤release) || !decide (release≤1073741824))=false:=by simp;omega
      simp +contextual (disch:=omega) [-getElem?_pos,wrap64,dJ,h6,h8];refine bT (fun h9=>?_) (fun h9=>?_)
      ·rw[aM h9]at hE
       subst hE;exact hW
      ·rw[ay h9]at hE
       refine go_loop (fun i:Nat=>aqf (kn ss) g (.slice (some 1079) 1 (List.zipWith (Jk g) (us.take i) (ss.take i))) (kJ us) us.length i i G)
        (fun i=>i≤us.length∧∀j,j<i→gN (nth us j) g=0) (fun i=>us.length-i) 0 rfl (by simp) ⟨by omega,by omega⟩ ?_
       rintro i ⟨hi,hf⟩;simp +contextual (disch:=omega) [-getElem?_pos,wrap64,adb];refine bT (fun h3=>?_) (fun h3=>?_)
       ·have h3:i<us.length:=by omega
        have gx:i<ss.length:=by omega
        have hC:=arZ (hv i h3) (g:=g) (by omega) []
        by_cases h4:gN (nth us i) g=0
        ·rw[aM h4]at hC
         simp +contextual (disch:=omega) [-getElem?_pos,wrap64,bf (l:=us),bf (l:=ss),hC];refine bP (i+1) ?_ ⟨by omega,fun j hj=>?_⟩ (by omega)
         ·rw[Av h3 gx];simp
         rcases cF j i with h5|h5
         ·exact hf j h5
         ·rwa [show j=i by omega]
        ·rw[ay h4]at hC
         rw[aM (fun h=>h4 (h i h3))]at hE;subst hE;simp +contextual (disch:=omega) [-getElem?_pos,wrap64,bf (l:=us),bf (l:=ss),hC];exact hW
       ·obtain rfl:i=us.length:=by omega
        rw[ay (fun h=>h hf)]at hE;subst hE;rw[na,mo (by omega)]
        simp[←hW,hl])
structure Ch where
 cn:Int
 jM:Int
 jN:Int
 deriving Inhabited
abbrev Ch.row(c:Ch):List V:=[i64 c.cn,i64 c.jM,i64 c.jN]
abbrev Tq(l:List Ch):List V:=[.slice none 3 (l.map Ch.row)]
abbrev Part:=Option (Int×Int×Int)
def jz:Part→List V
 |none=>[.bool false,i64 0,i64 0,i64 0]
 |some (p,s,f)=>[.bool true,i64 p,i64 s,i64 f]
@[simp] theorem aCa{p:Part}{d:Nat}:((jz p).all fun v => !v.cA d)=true:=by
 cases p with
 |none=>rfl
 |some q=>rfl
abbrev mU(p:Part):V:=.agg (jz p)
def c6(rest:Int→Part)(left:Int)(c:Ch)(out:Part):Part:=match rest (left-c.cn) with
 |none=>out
 |some (p,s,_)=>match out with
  |none=>some (p+c.jM,s+c.jN,c.cn)
  |some (q,t,f)=>if ko (p+c.jM,s+c.jN) (q,t) [] [] then some (p+c.jM,s+c.jN,c.cn) else some (q,t,f)
def qK(rest:Int→Part)(left:Int):List Ch→Part→Part
 |[],out=>out
 |c::cs,out=>if left<c.cn then out else qK rest left cs (c6 rest left c out)
def jO:List (List Ch)→Int→Part
 |[],_=>some (0,0,0)
 |l::ls,left=>qK (jO ls) left l none
def nz:List (List Ch)→Int→Option (List Int)
 |[],_=>some []
 |l::ls,left=>match jO (l::ls) left with
  |none=>none
  |some (_,_,f)=>(nz ls (left-f)).map (f :: ·)
abbrev BV:=List ((Int×Int)×Part)
def sV(m:BV):List (V×V):=m.map fun e=>(.agg [i64 e.1.1,i64 e.1.2],mU e.2)
def yP(LL:List (List Ch))(m:BV):Prop:=∀e∈m,∃i:Nat,e.1.1=i∧e.2=jO (LL.drop i) e.1.2
def gl(n:Nat)(LL:List (List Ch))(m:BV):List aS:=[.cells [.slice none 1 (LL.map Tq)],.map (sV m),.cells [.map 1],.cells [.fn n [.bm 0 0,.bm 2 0,.bm 3 0]]]
theorem Ts{LL:List (List Ch)}{i:Nat}{left:Int}:∀{m:BV} {k:Nat},yP LL m →
  nf true [0,0] (.agg [i64 i,i64 left]) (sV m) k=some none∨∃j,nf true [0,0] (.agg [i64 i,i64 left]) (sV m) k=some (some (k+j,mU (jO (LL.drop i) left)))∧j<m.length
 |[],k,_=>.inl rfl
 |e::m,k,h=>by
  obtain⟨⟨a,b⟩,p⟩:=e;obtain⟨i',h1,h2⟩:=h ((a,b),p) (by simp)
  simp only at h1 h2;have h3:∀x∈m,∃i:Nat,x.1.1=i∧x.2=jO (LL.drop i) x.1.2:=fun x hx=>h x (by simp[hx])
  have step:nf true [0,0] (.agg [i64 i,i64 left]) (sV (((a,b),p)::m)) k=if (i:Int)=a∧left=b then some (some (k,mU p)) else nf true [0,0] (.agg [i64 i,i64 left]) (sV m) (k+1):=by
   show(match V.nd true [0,0] (.agg [i64 i,i64 left]) (.agg [i64 a,i64 b]) with|some true=>some (some (k,mU p))|some false=>nf true [0,0] (.agg [i64 i,i64 left]) (sV m) (k+1)|none=>none)=_
   have:V.nd true [0,0] (.agg [i64 i,i64 left]) (.agg [i64 a,i64 b])=some (decide ((i:Int)=a∧left=b)):=by
    simp[V.nd,eC,jW]<;>(by_cases q1:(i:Int)=a<;>by_cases q2:left=b<;>simp[q1,q2])
   rw[this];by_cases q:(i:Int)=a∧left=b
   ·simp[q]
   ·rw[decide_eq_false q,ay q]
  rw[step];split
  ·rename_i q
   refine .inr ⟨0,?_,by simp⟩
   have:i=i':=by omega
   subst this;rw[h2,← q.2];rfl
  ·rcases Ts (k:=k+1) h3 with h4 | ⟨j,h4,h5⟩
   ·exact .inl h4
   ·exact .inr ⟨j+1,by rw[h4];simp;omega,by simp;omega⟩
structure Lb(LL:List (List Ch)):Prop where
 kH:LL.length≤6
 each:∀i,i<LL.length→(nth LL i).length≤1000
 cn:∀i j,i<LL.length→j<(nth LL i).length→0≤(nth (nth LL i) j).cn∧(nth (nth LL i) j).cn≤1073741824
 jM:∀i j,i<LL.length→j<(nth LL i).length→0≤(nth (nth LL i) j).jM∧(nth (nth LL i) j).jM≤1073741824
 jN:∀i j,i<LL.length→j<(nth LL i).length→0≤(nth (nth LL i) j).jN∧(nth (nth LL i) j).jN≤1
def pb(k:Int):Part→Prop
 |none=>True
 |some (p,s,f)=>(0≤p∧p≤1073741824*k)∧(0≤s∧s≤k)∧0≤f
theorem ael{rest:Int→Part}{left k:Int}(hr:∀x,pb k (rest x)):∀{l:List Ch} {out:Part},pb (k+1) out →
  (∀c∈l,0≤c.cn∧(0≤c.jM∧c.jM≤1073741824)∧0≤c.jN∧c.jN≤1)→pb (k+1) (qK rest left l out)
 |[],out,h,_=>h
 |c::cs,out,h,hc=>by
  unfold qK;split
  ·exact h
  ·refine ael hr ?_ fun c hm=>hc c (by simp[hm])
   have h1:=hr (left-c.cn);obtain⟨c1,c2,c3⟩:=hc c (by simp)
   have ok:∀p s f,pb k (some (p,s,f))→pb (k+1) (some (p+c.jM,s+c.jN,c.cn)):=fun p s f q=>by
    simp only[pb]at q ⊢;omega
   unfold c6;split
   ·exact h
   ·rename_i p s f e
    rw[e]at h1;split
    ·exact ok _ _ _ h1
    ·split
     ·exact ok _ _ _ h1
     ·exact h
theorem FP{α:Type}[Inhabited α]{l:List α}{a:α}(h:a∈l):∃i,i<l.length∧nth l i=a:=by
 obtain⟨i,hi,rfl⟩:=List.getElem_of_mem h;exact⟨i,hi,by simp[nth,hi]⟩
theorem aem:∀{LL:List (List Ch)} {left:Int},(∀l∈LL,∀c∈l,0≤c.cn∧(0≤c.jM∧c.jM≤1073741824)∧0≤c.jN∧c.jN≤1)→pb LL.length (jO LL left)
 |[],left,_=>by simp[jO,pb]
 |l::ls,left,h=>by
  have:=ael (left:=left) (k:=ls.length) (l:=l) (out:=none) (fun x=>aem (LL:=ls) (left:=x) fun l hl=>h l (by simp[hl])) trivial (h l (by simp))
  simpa [jO] using this
theorem Lb.all{LL:List (List Ch)}(h:Lb LL):∀l∈LL,∀c∈l,0≤c.cn∧(0≤c.jM∧c.jM≤1073741824)∧0≤c.jN∧c.jN≤1:=by
 intro l hl c hc;obtain⟨i,hi,rfl⟩:=FP hl;obtain⟨j,hj,rfl⟩:=FP hc;exact⟨(h.cn i j hi hj).1,h.jM i j hi hj,h.jN i j hi hj⟩
theorem Lb.pb{LL:List (List Ch)}(h:Lb LL)(i:Nat)(left:Int):pb (LL.length:Int) (jO (LL.drop i) left):=by
 have h1:=aem (LL:=LL.drop i) (left:=left) (fun l hl=>h.all l (Kp hl));cases hb:jO (LL.drop i) left with
 |none=>trivial
 |some q =>
  obtain⟨p,s,f⟩:=q;rw[hb]at h1;simp only[Go.Proofs.YtmppfkgfnnebeaaGreatDoor.pb]at h1 ⊢;have:(LL.drop i).length≤LL.length:=by simp
  omega
theorem Tt{LL:List (List Ch)}{i:Nat}(h:i<LL.length)(left:Int):jO (LL.drop i) left=qK (jO (LL.drop (i+1))) left (nth LL i) none:=by
 rw[sN h];rfl
theorem ar1(a b:Int):V.nd true [0,0] (.agg [i64 a,i64 b]) (.agg [i64 a,i64 b])=some true:=by simp[V.nd,eC,jW]
theorem ar2{LL:List (List Ch)}(hL:Lb LL):∀(k i:Nat) (left:Int) (m:BV),k=LL.length-i→i≤LL.length→0≤left→left≤1073741824→yP LL m →
  ∃m',aZ F 245 [i64 i,i64 left,.bm 0 0,.bm 2 0,.bm 3 0] (gl 245 LL m)=some (mU (jO (LL.drop i) left),gl 245 LL m')∧yP LL m':=by
 intro k;induction k with
 |zero =>
  intro i left m hk hi h0 h1 hm;obtain rfl:i=LL.length:=by omega
  refine⟨m,bM rfl rfl ?_,hm⟩;rw[AV,jO];simp (disch:=omega) [-getElem?_pos,wrap64,I2,gl];rfl
 |succ k ih =>
  intro i left m hk hi h0 h1 hm
  suffices h:∀Q:V→List aS→Prop,(∀m',yP LL m'→Q (mU (jO (LL.drop i) left)) (gl 245 LL m'))→gA (aZ F) 245 [i64 i,i64 left,.bm 0 0,.bm 2 0,.bm 3 0] (gl 245 LL m) Q by
   obtain⟨_,_,h,m',h1,rfl,rfl⟩:=h (fun v G=>∃m',yP LL m'∧v=mU (jO (LL.drop i) left)∧G=gl 245 LL m') fun m' a=>⟨m',a,rfl,rfl⟩;exact⟨m',h,h1⟩
  intro Q hQ;refine gM rfl rfl ?_;have bE:i<LL.length:=by omega
  have xz:¬(i:Int)=LL.length:=by omega
  have pd:=ar1 i left;have FK:=hL.kH;rcases Ts (LL:=LL) (i:=i) (left:=left) (m:=m) (k:=0) hm with hf | ⟨j,hf,hj⟩
  ·rw[Tt bE left]at hQ
   generalize hW:qK (jO (LL.drop (i+1))) left (nth LL i) none=W at hQ;have hn:=hL.each i bE;simp (disch:=omega) [-getElem?_pos,wrap64,I2,gl,xz,pd,hf,bf (l:=LL)];have yG:∀(out:Part) (m:BV),out=W→yP LL m→(nf true [0,0] (.agg [i64 i,i64 left]) (sV m) 0=some none∧∃m',yP LL m'∧sV m++[(.agg [i64 i,i64 left],mU out)]=sV m') ∨
     ∃j v,nf true [0,0] (.agg [i64 i,i64 left]) (sV m) 0=some (some (j,v))∧∃m',yP LL m'∧(sV m).set j (.agg [i64 i,i64 left],mU out)=sV m':=by
    rintro out m rfl hm;rw[←Tt bE left]at hW;rcases Ts (LL:=LL) (i:=i) (left:=left) (m:=m) (k:=0) hm with h5 | ⟨j,h5,hj⟩
    ·refine .inl ⟨h5,m++[(((i:Int),left),out)],fun e he=>?_,by simp[sV]⟩
     rcases ot.1 he with h6|h6
     ·exact hm e h6
     ·obtain rfl:=ou.1 h6
      exact⟨i,rfl,hW.symm⟩
    ·refine .inr ⟨_,_,h5,m.set (0+j) (((i:Int),left),out),fun e he=>?_,by simp[sV,OD]⟩
     rcases List.mem_or_eq_of_mem_set he with h6|rfl
     ·exact hm e h6
     ·exact⟨i,rfl,hW.symm⟩
   refine go_loop (fun x:Nat×Part×BV=>aqi i left (.bm 2 0) (.bm 3 0) (.slice none 3 ((nth LL i).map Ch.row)) (nth LL i).length x.1 [.bool false,i64 0,i64 0,i64 0] (jz x.2.1) (gl 245 LL x.2.2))
    (fun x=>x.1≤(nth LL i).length∧qK (jO (LL.drop (i+1))) left ((nth LL i).drop x.1) x.2.1=W∧yP LL x.2.2) (fun x=>(nth LL i).length-x.1) (0,none,m) rfl (by simp[gl,jz]) ⟨by omega,by simpa using hW,hm⟩ ?_
   rintro⟨j,out,m⟩ ⟨hj,hq,hm⟩;simp only at hj hq hm;simp (disch:=omega) [-getElem?_pos,wrap64,adf,gl];refine bT (fun h2=>?_) (fun h2=>?_)
   ·have h2:j<(nth LL i).length:=by omega
    have a1:=hL.cn i j bE h2;have a2:=hL.jM i j bE h2;have a3:=hL.jN i j bE h2;rw[sN h2,qK]at hq;have gt:=bf h2;simp (disch:=omega) [-getElem?_pos,wrap64,gt];refine bT (fun h3=>?_) (fun h3=>?_)
    ·rw[aM h3]at hq
     rcases yG out m hq hm with⟨g1,m2,g2,g3⟩ | ⟨j2,v2,g1,m2,g2,g3⟩
     ·have:=hQ m2 g2
      cases pA:W with
      |none =>
       rw[hq]at g3;rw[pA]at this g3;simp only[gl,← g3,mU,jz]at this;simp (disch:=omega) [-getElem?_pos,wrap64,hq,pA,jz,pd,g1];exact this
      |some q =>
       obtain⟨p,s,f⟩:=q;rw[hq]at g3;rw[pA]at this g3;simp only[gl,← g3,mU,jz]at this;simp (disch:=omega) [-getElem?_pos,wrap64,hq,pA,jz,pd,g1];exact this
     ·have:=hQ m2 g2
      cases pA:W with
      |none =>
       rw[hq]at g3;rw[pA]at this g3;simp only[gl,← g3,mU,jz]at this;simp (disch:=omega) [-getElem?_pos,wrap64,hq,pA,jz,pd,g1];exact this
      |some q =>
       obtain⟨p,s,f⟩:=q;rw[hq]at g3;rw[pA]at this g3;simp only[gl,← g3,mU,jz]at this;simp (disch:=omega) [-getElem?_pos,wrap64,hq,pA,jz,pd,g1];exact this
    ·obtain⟨m',hI,vW⟩:=ih (i+1) (left-(nth (nth LL i) j).cn) m (by omega) (by omega) (by omega) (by omega) hm
     have hp:=hL.pb (i+1) (left-(nth (nth LL i) j).cn);rw[ay h3]at hq;unfold c6 at hq;simp only[gl]at hI
     push_cast at hI
     cases hb:jO (LL.drop (i+1)) (left-(nth (nth LL i) j).cn) with
     |none =>
      rw[hb]at hI hp hq;simp only[mU,jz]at hI;simp only at hq;simp (disch:=omega) [-getElem?_pos,wrap64,hI];exact bP (j+1,out,m') (by simp[gl]) ⟨by omega,hq,vW⟩ (by simp;omega)
     |some q =>
      obtain⟨p,s,f⟩:=q;rw[hb]at hI hp hq;simp only[mU,jz]at hI;simp only at hq;simp only[pb]at hp;have hB:=fun a b=>arj a b [] [] (by simp) []
      simp only[ints,GW]at hB;cases out with
      |none =>
       simp only at hq;simp (disch:=omega) [-getElem?_pos,wrap64,hI,jz];exact bP (j+1,some (p+(nth (nth LL i) j).jM,s+(nth (nth LL i) j).jN,(nth (nth LL i) j).cn),m') (by simp[gl,jz]) ⟨by omega,hq,vW⟩ (by simp;omega)
      |some o =>
       obtain⟨p',s',f'⟩:=o;simp only at hq;by_cases Aw:ko (p+(nth (nth LL i) j).jM,s+(nth (nth LL i) j).jN) (p',s') [] []
       ·rw[aM Aw]at hq
        have hB:=hB (p+(nth (nth LL i) j).jM,s+(nth (nth LL i) j).jN) (p',s');simp (disch:=omega) [-getElem?_pos,wrap64,hI,jz,hB,Aw];exact bP (j+1,some (p+(nth (nth LL i) j).jM,s+(nth (nth LL i) j).jN,(nth (nth LL i) j).cn),m') (by simp[gl,jz]) ⟨by omega,hq,vW⟩ (by simp;omega)
       ·rw[ay Aw]at hq
        have hB:=hB (p+(nth (nth LL i) j).jM,s+(nth (nth LL i) j).jN) (p',s');simp (disch:=omega) [-getElem?_pos,wrap64,hI,jz,hB,Aw];exact bP (j+1,some (p',s',f'),m') (by simp[gl,jz]) ⟨by omega,hq,vW⟩ (by simp;omega)
   ·obtain rfl:j=(nth LL i).length:=by omega
    rw[AV,qK]at hq;rcases yG out m hq hm with⟨g1,m2,g2,g3⟩ | ⟨j2,v2,g1,m2,g2,g3⟩
    ·have:=hQ m2 g2
     cases pA:W with
     |none =>
      rw[hq]at g3;rw[pA]at this g3;simp only[gl,← g3,mU,jz]at this;simp (disch:=omega) [-getElem?_pos,wrap64,hq,pA,jz,pd,g1];exact this
     |some q =>
      obtain⟨p,s,f⟩:=q;rw[hq]at g3;rw[pA]at this g3;simp only[gl,← g3,mU,jz]at this;simp (disch:=omega) [-getElem?_pos,wrap64,hq,pA,jz,pd,g1];exact this
    ·have:=hQ m2 g2
     cases pA:W with
     |none =>
      rw[hq]at g3;rw[pA]at this g3;simp only[gl,← g3,mU,jz]at this;simp (disch:=omega) [-getElem?_pos,wrap64,hq,pA,jz,pd,g1];exact this
     |some q =>
      obtain⟨p,s,f⟩:=q;rw[hq]at g3;rw[pA]at this g3;simp only[gl,← g3,mU,jz]at this;simp (disch:=omega) [-getElem?_pos,wrap64,hq,pA,jz,pd,g1];exact this
  ·cases hb:jO (LL.drop i) left with
   |none =>
    rw[hb]at hf hQ;simp only[mU,jz]at hf;simp (disch:=omega) [-getElem?_pos,wrap64,I2,gl,xz,pd,hf];exact hQ m hm
   |some q =>
    obtain⟨p,s,f⟩:=q;rw[hb]at hf hQ;simp only[mU,jz]at hf;simp (disch:=omega) [-getElem?_pos,wrap64,I2,gl,xz,pd,hf];exact hQ m hm
end Go.Proofs.YtmppfkgfnnebeaaGreatDoor

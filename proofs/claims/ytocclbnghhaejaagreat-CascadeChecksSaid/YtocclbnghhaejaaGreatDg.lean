/- Parts of the proof, joined: Flo3, Run1, Run2, Mut1, End0. -/
import Derived.Test.YtocclbnghhaejaaGreatDf
import Derived.Test.YtocclbnghhaejaaGreatSh
import Derived.Test.YtocclbnghhaejaaGreatQV
import Derived.Test.YtocclbnghhaejaaGreatVmN
import Derived.Test.YtocclbnghhaejaaGreatRows
namespace Go.Proofs.YtocclbnghhaejaaGreat
set_option linter.all false
open Go.Vm
attribute [local simp] lQ lR kP lP
theorem aoY{l:List Int}{k:Nat}(hd:db l k){c:Cs}(hc:Cm c){s:List Ds}(hs:mi c s):∃f k',aX F 55 [.bG 0 0,cs c,m7 s] [dk l k]=some (fl f,[dk l k'])∧db l k'∧ft c f∧hB c f 10:=by
 suffices h:∀Q:V→List aP→Prop,(∀f k',db l k'→ft c f→hB c f 10→Q (fl f) [dk l k'])→gy (aX F) 55 [.bG 0 0,cs c,m7 s] [dk l k] Q by
  obtain⟨_,_,h,f,k',rfl,rfl,h1⟩:=h (fun v G=>∃f k',v=fl f∧G=[dk l k']∧db l k'∧ft c f∧hB c f 10) fun f k' a b d=>⟨f,k',rfl,rfl,a,b,d⟩;exact⟨f,k',h,h1⟩
 intro Q hQ;refine gS rfl rfl ?_;have cv:=jZ hc.eH;have kv:=j0 cv.k;have qU:=hc.small;have Qp:=hc.n;obtain⟨G1,gN⟩:=an7 c qU s (Ai hc.eH hs);have h0:kE c s=.tuple [fl (jw c s),i64 0]:=by unfold kE;rw[show kV c s=0 by unfold kV;rw[if_neg (by have:=hc.eH;omega),if_pos hs]];rfl
 rw[h0]at gN;obtain⟨m,k1,n1,gB,hm⟩:=fK hd 6 (by omega)
 have PR:=(D0 hc.eH).2 hs;have zB:=aoX (c:=c) (s:=s);generalize jw c s=f0 at gN PR zB;simp (disch:=omega) [wrap64,Vj,gN,n1];refine go_loop (fun y:Fl×Int×Nat=>ahj (.bG 0 0) y.2.1 c.row [i64 0,.bV,.bV] y.1.row [dk l y.2.2])
  (fun y=>ft c y.1∧(0≤y.2.1∧y.2.1≤10)∧db l y.2.2∧hB c y.1 (10-y.2.1)) (fun y=>y.2.1.toNat) (f0,m,k1) rfl (by simp) ⟨PR,by simp only;omega,gB,Ko cv.k zB (by simp only;omega)⟩ ?_
 rintro⟨f,x,k⟩ ⟨h1,h2,hd,hh⟩;simp only at h1 h2 hd hh;simp (disch:=omega) [wrap64,Vi];refine bE (fun h3=>?_) (fun h3=>?_)
 ·obtain⟨p,k2,n2,eX,hp,ha,hb,u7⟩:=Qd hd (c:=c) (by have:=kv.n;omega) (by have:=cv.s;omega)
  have GW:=cv.s;have lM:p.a.length≤1000∧p.b.length≤1000∧p.c.length≤1000:=by have:=hp;unfold mj at this;omega
  obtain⟨G2,hS⟩:=Ki qU (yF cv.k h1) lM;by_cases he:m8 c f p=0
  ·rw[qf,if_pos he]at hS
   have vg:=(Kk he).fl;have wq:=Ko cv.k (abc (Kk he) (by omega) hh).1 (show 10-x+1≤10-(x-1) by omega)
   generalize oN c f p=f2 at hS vg wq;generalize sw c f p=pp at hS;simp (disch:=omega) [wrap64,n2,hS];exact bF (f2,x-1,k2) (by simp) ⟨vg,by simp only;omega,eX,wq⟩ (by simp only;omega)
  ·rw[qf,if_neg he]at hS
   simp (disch:=omega) [wrap64,n2,hS,decide_eq_false he];exact bF (f,x-1,k2) (by simp) ⟨h1,by simp only;omega,eX,Ko cv.k hh (by simp only;omega)⟩ (by simp only;omega)
 ·exact hQ f k hd h1 (Ko cv.k hh (by omega))
theorem Qq{l:List Int}{k:Nat}(hd:db l k):∃c f k',aX F 14 [.bG 0 0] [dk l k]=some (.tuple [cs c,fl f],[dk l k'])∧db l k'∧Cm c∧ft c f∧hB c f 10:=by
 suffices h:∀Q:V→List aP→Prop,(∀c f k',db l k'→Cm c→ft c f→hB c f 10→Q (.tuple [cs c,fl f]) [dk l k'])→gy (aX F) 14 [.bG 0 0] [dk l k] Q by
  obtain⟨_,_,h,c,f,k',rfl,rfl,h1⟩:=h (fun v G=>∃c f k',v=.tuple [cs c,fl f]∧G=[dk l k']∧db l k'∧Cm c∧ft c f∧hB c f 10) fun c f k' a b d e=>⟨c,f,k',rfl,rfl,a,b,d,e⟩;exact⟨c,f,k',h,h1⟩
 intro Q hQ;refine gS rfl rfl ?_;obtain⟨c,s,k1,n1,gB,hc,hs⟩:=aob hd;obtain⟨f,k2,n2,eX,hf,hb⟩:=aoY gB hc hs;simp[wrap64,UN,n1,n2];exact hQ c f k2 eX hc hf hb
instance:Inhabited Sp:=⟨⟨[],[],[]⟩⟩
abbrev lW(l:List Sp):V:=.slice none 3 (l.map Sp.row)
noncomputable def eo(c:Cs)(f:Fl)(l:List Sp):Nat→Fl
 |0=>f
 |k+1=>oN c (eo c f l k) (nth l k)
noncomputable def D8(c:Cs)(f:Fl)(l:List Sp)(k:Nat):Ps:=sw c (eo c f l k) (nth l k)
noncomputable def kn(c:Cs)(f:Fl)(l:List Sp)(k:Nat):List Ps:=(List.range k).map (D8 c f l)
theorem Qt{c:Cs}{f:Fl}{l:List Sp}{k:Nat}:kn c f l (k+1)=kn c f l k++[D8 c f l k]:=by simp[kn,List.range_succ]
@[simp] theorem awf{c:Cs}{f:Fl}{l:List Sp}{k:Nat}:(kn c f l k).length=k:=by simp[kn]
noncomputable def lI(c:Cs)(f:Fl)(l:List Sp):Int:=if iq c f≠0 then iq c f else if 400<l.length then 10 else dB (fun k=>fP c (eo c f l k) (nth l k)) l.length 0
abbrev Qu(t:Option Nat)(e:Int):V:=.tuple [.agg [i64 0,.slice t 4 [],.slice t 1 []],.slice t 3 [],i64 e]
noncomputable def nE(t:Option Nat)(c:Cs)(f:Fl)(l:List Sp):V:=if lI c f l=0 then .tuple [fl (eo c f l l.length),.slice t 3 ((kn c f l l.length).map Ps.row),i64 0] else Qu t (lI c f l)
theorem Hc{c:Cs}{f:Fl}{p:Sp}(hc:ew c=0)(hf:ft c f):m8 c f p=fP c f p:=by
 unfold m8 iq;rw[if_neg (by omega:¬ (ew c≠0)),if_pos hf]
 rfl
theorem Hd{c:Cs}{f:Fl}{l:List Sp}(hc:ew c=0)(hf:ft c f):∀k,(∀j,j<k→fP c (eo c f l j) (nth l j)=0)→ft c (eo c f l k)
 |0,_=>hf
 |k+1,h=>by
  have ih:=Hd hc hf k fun j hj=>h j (by omega)
  exact(Kk (by rw[Hc hc ih];exact h k (by omega))).fl
set_option maxRecDepth 100000 in
set_option maxHeartbeats 1000000 in
theorem ao8{c:Cs}(hr:gW c.r){f:Fl}(hf:jY f)(l:List Sp)(hl:l.length≤1000):∃G',aX F 167 [cs c,fl f,lW l] []=some (nE (some 0) c f l,G'):=by
 suffices h:∀Q:V→Prop,Q (nE (some 0) c f l)→gy (aX F) 167 [cs c,fl f,lW l] [] fun v _=>Q v by
  obtain⟨_,G',h,rfl⟩:=h (fun v=>v=nE (some 0) c f l) rfl;exact⟨G',h⟩
 intro Q hQ;refine gS rfl rfl ?_;have hd:=PZ c hr f hf;by_cases hz:iq c f=0
 case neg =>
  rw[nE,if_neg (by unfold lI;rw[if_pos hz];exact hz),show lI c f l=iq c f by unfold lI;rw[if_pos hz]]at hQ
  simp (disch:=omega) [-getElem?_pos,wrap64,I9,hd,hz];exact hQ
 obtain⟨z1,z2⟩:=wx hz;have cv:=jZ z1;have kv:=j0 cv.k;by_cases h4:400<l.length
 case pos =>
  have e:lI c f l=10:=by unfold lI;rw[if_neg (by omega),if_pos h4]
  have Qv:(400:Int)<l.length:=by omega
  rw[nE,if_neg (by omega),e]at hQ
  simp (disch:=omega) [-getElem?_pos,wrap64,I9,hd,hz,Qv];exact hQ
 have Qv:¬ (400:Int)<l.length:=by omega
 have gN:=P6 f.d (Ai z1 z2.2.1);have hwv:=aaw f.w (G7 cv.k z2.2.2);have e:lI c f l=dB (fun k=>fP c (eo c f l k) (nth l k)) l.length 0:=by unfold lI;rw[if_neg (by omega),if_neg h4]
 simp (disch:=omega) [-getElem?_pos,wrap64,I9,hd,hz,Qv,gN,hwv,sr,Ag];refine go_loop (fun k:Nat=>ajQ (.slice (some 1058) 3 ((kn c f l k).map Ps.row)) (lW l) l.length k c.row (eo c f l k).row [z0,.bV,.bV] k [.cells [],.cells []])
  (fun k=>k≤l.length∧dB (fun k=>fP c (eo c f l k) (nth l k)) (l.length-k) k=lI c f l∧∀j,j<k→fP c (eo c f l j) (nth l j)=0) (fun k=>l.length-k) 0 rfl (by simp (disch:=omega) [sr,Ag,eo,kn]) ⟨by omega,e.symm,by omega⟩ ?_
 rintro k ⟨hk,hE,hj⟩;have B5:=Hd z1 z2 k hj;simp (disch:=omega) [-getElem?_pos,wrap64,Xd];refine bE (fun h5=>?_) (fun h5=>?_)
 ·have h5:k<l.length:=by omega
  rw[kB h5]at hE;obtain⟨G1,hP⟩:=aaR hr z1 B5 (nth l k);by_cases h6:fP c (eo c f l k) (nth l k)=0
  ·rw[Ak,if_pos h6]at hP
   simp only[if_pos h6]at hE;simp (disch:=omega) [-getElem?_pos,wrap64,a8 (l:=l),hP];refine bF (k+1) (by simp[Qt,eo,D8]) ⟨by omega,hE,fun j nO=>?_⟩ (by omega)
   by_cases g:j=k
   ·rw[g];exact h6
   ·exact hj j (by omega)
  ·rw[Ak,if_neg h6]at hP
   simp only[if_neg h6]at hE;rw[nE,if_neg (by omega),← hE]at hQ
   simp (disch:=omega) [-getElem?_pos,wrap64,a8 (l:=l),hP,h6];exact hQ
 ·obtain rfl:k=l.length:=by omega
  rw[Nat.sub_self]at hE;have hE:0=lI c f l:=hE;rw[nE,if_pos hE.symm]at hQ;exact hQ
theorem abo{α:Type}[Inhabited α]{l:List α}{k i:Nat}:nth (l.drop k) i=nth l (k+i):=by
 simp[nth,List.getD]
theorem abp{c:Cs}{f:Fl}{l:List Sp}{k:Nat}:∀{i:Nat},i≤k→eo c f (l.take k) i=eo c f l i
 |0,_=>rfl
 |i+1,h=>by simp only[eo];rw[abp (by omega),Ab (by omega)]
theorem abq{c:Cs}{f:Fl}{l:List Sp}{k:Nat}:∀i:Nat,eo c (eo c f l k) (l.drop k) i=eo c f l (k+i)
 |0=>rfl
 |i+1=>by
  show oN c (eo c (eo c f l k) (l.drop k) i) (nth (l.drop k) i)=oN c (eo c f l (k+i)) (nth l (k+i));rw[abq i,abo]
structure Ra(c:Cs)(f:Fl)(l:List Sp):Prop where
 c0:ew c=0
 f0:ft c f
 len:l.length≤400
 v:∀k,k<l.length→fP c (eo c f l k) (nth l k)=0
theorem apa{c:Cs}{f:Fl}{l:List Sp}(h:lI c f l=0):Ra c f l:=by
 unfold lI at h;split at h
 ·rename_i h1;exact absurd h h1
 ·rename_i h1
  obtain⟨a,b⟩:=wx (Decidable.of_not_not h1);split at h
  ·cases h
  ·exact⟨a,b,by omega,fun k hk=>rU h k (by omega) (by omega)⟩
theorem Ra.e{c:Cs}{f:Fl}{l:List Sp}(h:Ra c f l):lI c f l=0:=by
 have hr:iq c f=0:=by unfold iq;rw[if_neg (by have:=h.c0;omega),if_pos h.f0]
 have:=h.len;unfold lI;rw[if_neg (by omega),if_neg (by omega)]
 exact rW fun j _ hj=>h.v j (by omega)
theorem Ra.at_{c:Cs}{f:Fl}{l:List Sp}(h:Ra c f l){k:Nat}(hk:k≤l.length):ft c (eo c f l k):=Hd h.c0 h.f0 k fun j hj=>h.v j (by omega)
theorem Ra.pa{c:Cs}{f:Fl}{l:List Sp}(h:Ra c f l){k:Nat}(hk:k<l.length):Pa c (eo c f l k) (nth l k):=Kk (by rw[Hc h.c0 (h.at_ (by omega))];exact h.v k hk)
theorem Ra.take{c:Cs}{f:Fl}{l:List Sp}(h:Ra c f l){k:Nat}(hk:k≤l.length):Ra c f (l.take k) :=
 ⟨h.c0,h.f0,by have:=h.len;simp;omega,fun j hj=>by
  simp at hj;rw[abp (by omega),Ab (by omega)]
  exact h.v j (by omega)⟩
theorem Ra.drop{c:Cs}{f:Fl}{l:List Sp}(h:Ra c f l){k:Nat}(hk:k≤l.length):Ra c (eo c f l k) (l.drop k) :=
 ⟨h.c0,h.at_ hk,by have:=h.len;simp;omega,fun j hj=>by
  simp at hj;rw[abq,abo];exact h.v (k+j) (by omega)⟩
theorem Ra.hB{c:Cs}{f:Fl}{l:List Sp}(h:Ra c f l){M:Int}(hM:0≤M)(hb:hB c f M):∀{k:Nat},k≤l.length→hB c (eo c f l k) (M+k)
 |0,_=>by simpa [eo] using hb
 |k+1,hk=>by
  have:=(abc (h.pa (k:=k) (by omega)) (by omega) (h.hB hM hb (k:=k) (by omega))).1
  rw[show M+((k+1:Nat):Int)=M+k+1 by omega]
  exact this
def Sw(c:Cs)(p:Sp):Prop:=mj c p∧eJ p.a 30∧eJ p.b 30∧eJ p.c 30
abbrev Qw(l:List Sp):V:=.slice (some 0) 3 (l.map Sp.row)
theorem abr{l:List Int}{k:Nat}(hd:db l k){c:Cs}(hn:1≤c.r.n∧c.r.n≤40)(hs:c.s.length≤10){n:Nat}(hm:n≤1000) :
  ∃q k',aX F 29 [.bG 0 0,cs c,i64 n] [dk l k]=some (Qw q,[dk l k'])∧db l k'∧q.length=n∧∀i,i<n→Sw c (nth q i):=by
 suffices h:∀Q:V→List aP→Prop,(∀q k',db l k'→q.length=n→(∀i,i<n→Sw c (nth q i))→Q (Qw q) [dk l k'])→gy (aX F) 29 [.bG 0 0,cs c,i64 n] [dk l k] Q by
  obtain⟨_,_,h,q,k',rfl,rfl,h1⟩:=h (fun v G=>∃q k',v=Qw q∧G=[dk l k']∧db l k'∧q.length=n∧∀i,i<n→Sw c (nth q i)) fun q k' a b d=>⟨q,k',rfl,rfl,a,b,d⟩;exact⟨q,k',h,h1⟩
 intro Q hQ;refine gS rfl rfl ?_;simp (disch:=omega) [wrap64,U7];refine go_loop (fun y:List Sp×Nat=>agY (.bG 0 0) (.slice (some 1016) 3 (y.1.map Sp.row)) n y.1.length c.row y.1.length [dk l y.2]) (fun y=>y.1.length≤n∧db l y.2∧∀i,i<y.1.length→Sw c (nth y.1 i)) (fun y=>n-y.1.length) ([],k) rfl (by simp) ⟨by simp,hd,fun i hi=>absurd hi (by simp)⟩ ?_
 rintro⟨q,k⟩ ⟨h1,hd,hq⟩;simp only at h1 hd hq;simp (disch:=omega) [wrap64,U6];refine bE (fun h5=>?_) (fun h5=>?_)
 ·obtain⟨p,k2,n2,eX,hp⟩:=Qd hd (c:=c) hn hs
  simp (disch:=omega) [wrap64,n2];refine bF (q++[p],k2) (by simp) ⟨by simp;omega,eX,fun i hi=>?_⟩ (by simp;omega)
  simp only[List.length_append,List.length_singleton]at hi;rw[iF];by_cases g:i<q.length
  ·rw[if_pos g];exact hq i g
  ·rw[if_neg g,if_pos (by omega)];exact hp
 ·obtain e:q.length=n:=by omega
  exact hQ q k hd e (fun i hi=>hq i (by omega))
end Go.Proofs.YtocclbnghhaejaaGreat
namespace Go.Proofs.YtocclbnghhaejaaGreat
set_option linter.all false
open Go.Vm Go.Shelf Go.RowKit Go.Lib
theorem apz{w:World}{b:Nat}{c:Array Value}{e:TypeId}{d:Array Int}(hb:w.heap[b]?=some (.cells c e (0,0))) :
  (Go.Sort.putRow (Value.int .i64) w b 0 d).heap[b]?=some (.cells (Go.Sort.putCells (Value.int .i64) 0 d c) e (0,0)):=by
 simp[Go.Sort.putRow,Go.Sort.mapBlock,Array.getElem?_modify,hb,Go.Sort.onCells]
theorem apA{w:World}{b i:Nat}{d:Array Int}(h:i≠b):(Go.Sort.putRow (Value.int .i64) w b 0 d).heap[i]?=w.heap[i]?:=by
 simp[Go.Sort.putRow,Go.Sort.mapBlock,Array.getElem?_modify,Ne.symm h]
theorem KD{c:Array Value}{d:Array Int}{j:Nat}:(Go.Sort.putCells (Value.int .i64) 0 d c)[j]?=if j<d.size then (c[j]?).map fun _=>.int .i64 d[j]! else c[j]?:=by
 simp only[Go.Sort.putCells,Array.getElem?_mapIdx,Nat.zero_le,true_and,Nat.zero_add,Nat.sub_zero];split
 ·rfl
 ·cases c[j]?<;>rfl
theorem holds_of{w:World}{b:Nat}{c:Array Value}{e:TypeId}{zs:List Int}(hb:w.heap[b]?=some (.cells c e (0,0)))(hc:∀(j:Nat) z,zs[j]?=some z→c[j]?=some (.int .i64 z)) :
  Go.Sort.Holds (Value.int .i64) w b 0 zs.toArray:=by
 intro j hj;have tP:j<zs.length:=by simpa using hj
 have h1:=hc j zs[j] (List.getElem?_eq_getElem tP);constructor
 ·simp only[World.cell?,hb,Nat.zero_add,h1]
  simp[tP]
 ·simp[World.frozen?,hb]
theorem abE{w w':World}{b:Nat}{c:Array Value}{e:TypeId}{d:Array Int}{n:Nat}{os:Array Obj}(hb:w.heap[b]?=some (.cells c e (0,0)))(hw:w'=Go.Sort.grow (Go.Sort.putRow (Value.int .i64) (Go.Sort.ahead w n) b 0 d) os) :
  Written w w' b (Go.Sort.putCells (Value.int .i64) 0 d c) e:=by
 subst hw;have bA:b<w.heap.size:=(Array.getElem?_eq_some_iff.1 hb).1;have hs:(Go.Sort.putRow (Value.int .i64) (Go.Sort.ahead w n) b 0 d).heap.size=w.heap.size:=by simp
 refine⟨rfl,rfl,rfl,by simp,fun i hi vx=>?_,?_⟩
 ·rw[Go.Sort.heap_grow_old _ _ (by rw[hs];exact vx),apA hi];rfl
 ·rw[Go.Sort.heap_grow_old _ _ (by rw[hs];exact bA)]
  exact apz (w:=Go.Sort.ahead w n) hb
def kf:Int→List Int→List Int
 |_,[]=>[]
 |p,a::l=>if a=p then kf a l else a::kf a l
theorem QC:∀(x:Int) (l:List Int),dedup (x::l)=x::kf x l
 |_,[]=>rfl
 |x,y::r=>by
  have ih:=QC y r;simp only[dedup,kf];by_cases h:x=y
  ·subst h
   simp[ih]
  ·have h':(x==y)=false:=by simpa using h
   have h2:¬y=x:=fun e=>h e.symm;simp[h',h2,ih]
theorem abF(a:Int):∀(p:Int) (l:List Int),kf p (l++[a])=kf p l++(if a=l.getLastD p then [] else [a])
 |p,[]=>by simp[kf]
 |p,b::l=>by
  have ih:=abF a b l;have e:(b::l).getLastD p=l.getLastD b:=by cases l<;>rfl
  rw[e,List.cons_append,kf,kf,ih];split<;>simp
theorem abG{zs:List Int}:∀{m:Nat},m≤zs.length→compactUpTo zs.toArray m=dedup (zs.take m)
 |0,_=>by simp[compactUpTo,dedup]
 |m+1,h=>by
  have ih:=abG (zs:=zs) (m:=m) (by omega)
  have e:compactUpTo zs.toArray (m+1)=compactUpTo zs.toArray m++(if keeps zs.toArray m then [zs.toArray[m]!] else []):=by
   simp only[compactUpTo,List.range_succ,List.filter_append,List.map_append];congr 1;by_cases hk:keeps zs.toArray m=true<;>simp[hk]
  have hm:zs.toArray[m]! = nth zs m:=by simp[nth,h]
  rw[e,ih,hm,List.take_add_one,a8 h];cases m with
  |zero =>
   rw[if_pos (keeps_lt_one _ 0 (by omega))]
   simp[dedup]
  |succ m =>
   have ub:zs.toArray[m]! = nth zs m:=by simp[nth,show m<zs.length by omega]
   cases hz:zs with
   |nil=>rw[hz]at h;simp at h
   |cons x r =>
    rw[hz]at h hm ub;simp only[List.length_cons]at h;have Z4:(r.take m).getLastD x=nth (x::r) m:=by
     rw[List.getLastD_eq_getLast?,List.getLast?_take];cases m with
     |zero=>simp[nth]
     |succ m =>
      have:m<r.length:=by omega
      simp[nth,this]
    simp only[List.take_succ_cons,Option.toList_some];rw[QC,List.cons_append,List.cons_append,QC,abF,Z4];by_cases hk:nth (x::r) (m+1)=nth (x::r) m
    ·rw[keeps_neg (by omega) (by simp only[Nat.add_sub_cancel];rw[hm,ub,hk])]
     simp[hk]
    ·rw[keeps_pos (by simp only[Nat.add_sub_cancel];rw[hm,ub];exact hk)]
     simp[hk]
theorem apB(zs:List Int):compactUpTo zs.toArray zs.toArray.size=dedup zs:=by
 have:=abG (zs:=zs) (m:=zs.length) (Nat.le_refl _)
 rwa [List.take_length]at this
theorem apC:qD Tryz.prog 0 246 where
 fn:=⟨_,Tryz.func246,by kernel_rfl,by kernel_rfl⟩
 run:=fun w b cap zs c e hb hc h1 h2 h3=>by
  have h3:zs.length≤4294967296:=h3;have bA:b<w.heap.size:=(Array.getElem?_eq_some_iff.1 hb).1;refine(AnyM.slices_Sort_int Tryz.alr b 0 cap zs w (holds_of hb hc) bA (by omega)).mono fun r w' ⟨hr,n,os,hw⟩=>?_
  have hl:=(zN zs).length_eq;rw[←afG]at hw;refine⟨hr,_,abE hb hw,by simp[Go.Sort.putCells],fun j z hz=>?_,fun j hj=>?_⟩
  ·have QD:(nb zs)[j]?=some z:=hz
   have hj:=eK QD;rw[KD,if_pos (by simpa using hj)]
   have Cn:j<c.size:=by omega
   simp only[Array.getElem?_eq_getElem Cn,Option.map_some];congr 2;rw[List.getElem?_eq_getElem hj]at QD;cases QD;simp[hj]
  ·rw[KD,if_neg (by simp;omega)]
theorem apD:qD Tryz.prog 1 247 where
 fn:=⟨_,Tryz.func247,by kernel_rfl,by kernel_rfl⟩
 run:=fun w b cap zs c e hb hc h1 h2 h3=>by
  have h3:zs.length≤4294967296:=h3;have bA:b<w.heap.size:=(Array.getElem?_eq_some_iff.1 hb).1;refine(AnyE.slices_Compact Tryz.alu (Value.int .i64) (fun _=>rfl) (EqlAt.intD _ _ .i64) (NeqAt.intD _ _ .i64) 0 Tryz.zeroValue3 b 0 cap zs.toArray w (holds_of hb hc) (by simp;omega) (by simpa using h1)).mono fun r w' ⟨hr,n,hw⟩=>?_
  rw[apB]at hr hw;have hd:=Df zs;have sQ:w'=Go.Sort.grow (Go.Sort.putRow (Value.int .i64) (Go.Sort.ahead w n) b 0 (tC 1 zs).toArray) #[]:=by
   rw[Go.Sort.grow_empty];exact hw
  refine⟨hr,_,abE hb sQ,by simp[Go.Sort.putCells],fun j z hz=>?_,fun j hj=>?_⟩
  ·have hj:=eK hz
   have hl:=M7 1 zs;rw[KD,if_pos (by simpa using hj)]
   have Cn:j<c.size:=by omega
   simp only[Array.getElem?_eq_getElem Cn,Option.map_some];congr 2;rw[List.getElem?_eq_getElem hj]at hz;cases hz;simp[hj]
  ·have hl:=M7 1 zs
   rw[KD,if_neg (by simp;omega)]
theorem apE:M8 Tryz.prog 182 where
 fn:=⟨_,Tryz.func182,by kernel_rfl,by kernel_rfl⟩
 run:=fun w n h0 hl=>by
  obtain⟨k,rfl⟩:=Int.eq_ofNat_of_zero_le h0;have hl:(k:Int)≤4294967296:=hl;have hi:(Tryz.prog.info? 3).map (fun i=>(i.zero,i.size,i.bytes))=some (some (.int .i64 0),1,8):=by kernel_rfl
  obtain⟨i0,hi,he⟩:=Option.map_eq_some_iff.1 hi;simp only[Prod.mk.injEq]at he;obtain⟨hz,hs,hb⟩:=he;by_cases hk:k=0
  ·subst hk
   exact(Any8.slices_Grow_room Tryz.YD none 0 0 0 w (by omega) (by omega) (by omega) (by omega)).mono fun r w' h=>.inl h
  ·refine(Any8.slices_Grow_grow Tryz.YD i0 (.int .i64 0) hi hz (by omega) none 0 0 k [] w (by omega) (by omega) (by rw[hb];omega) (by omega) (by simp) (fun _=>rfl) (fun a h=>by cases h)).mono fun r w' h=>?_
   obtain⟨rfl,rfl⟩:=h;exact .inr ⟨_,_,_,rfl,rfl,rfl,rfl,rfl,by
    have:=grownCap_ge w (0+k) 0 (Tryz.YC.t 25);simp[Builtin.zeroCells,Value.cells];omega⟩
theorem apF(f k:Nat)(h:Go.Vm.look f F5=some k):qD Tryz.prog k f:=by
 simp only[F5,Go.Vm.look]at h;by_cases h0:(182==f)=true
 ·rw[h0]at h
  cases h;have:=eq_of_beq h0;subst this;exact apE
 rw[Bool.eq_false_iff.2 h0]at h;by_cases h1:(246==f)=true
 ·rw[h1]at h
  cases h;have:=eq_of_beq h1;subst this;exact apC
 ·rw[Bool.eq_false_iff.2 h1]at h
  by_cases h2:(247==f)=true
  ·rw[h2]at h
   cases h;have:=eq_of_beq h2;subst this;exact apD
  ·rw[Bool.eq_false_iff.2 h2]at h
   cases h
end Go.Proofs.YtocclbnghhaejaaGreat
namespace Go.Proofs.YtocclbnghhaejaaGreat
set_option linter.all false
open Go.Vm
open Go.ChangeShapes Go.WideShapes Go.ChangeAt Go.RowKit
theorem Tryz.own:ownKnob Tryz.prog.godebug=none:=by kernel_rfl
theorem Tryz.laidOut:laidOutB Tryz.prog=true:=by kernel_rfl
theorem QE:oD Tryz.prog (aX F):=aeR (E5 apF Tryz.checked.mixed alp)
end Go.Proofs.YtocclbnghhaejaaGreat

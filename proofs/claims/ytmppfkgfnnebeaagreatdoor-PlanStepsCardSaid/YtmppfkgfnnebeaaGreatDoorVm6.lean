/- The value machine, 6: rows of cells, slices that grow, stores, blocks that calls share. -/
import Derived.Test.YtmppfkgfnnebeaaGreatDoorVm5
namespace Go.Vm
set_option linter.all false
section
variable {P:Program} {E:Entry} {g g':Gh} {S S':St} {a:Act} {w w':World} {T':List (Nat×Nat)} {N' B:Nat}
structure jX(h:Array Obj)(m:Nat→Nat)(n:Nat)(ys:List (List V))(l:List Value):Prop where
 len:l.length=ys.length*n
 row:∀(i:Nat) (row:List V),ys[i]?=some row→row.length=n
 cell:∀(i:Nat) (row:List V) (j:Nat) (v:V),ys[i]?=some row→row[j]?=some v→v.plain=true∧∃y,l[i*n+j]?=some y∧fg h m v y
theorem OQ{i k n j:Nat}(hi:i<k)(hj:j<n):i*n+j<k*n:=by
 have h:=tf n hi;rw[oS]at h;omega
theorem jX.mono{X X':Cx}(le:Le X X'){n:Nat}{ys:List (List V)}{l:List Value}(h:jX X.h X.g.m n ys l):jX X'.h X'.g.m n ys l :=
 ⟨h.len,h.row,fun i row j v hi hj=>by
  obtain⟨a,y,b,c⟩:=h.cell i row j v hi hj;exact⟨a,y,b,c.mono le⟩⟩
theorem jX.nil{h:Array Obj}{m:Nat→Nat}{n:Nat}:jX h m n [] []:=⟨by simp,by simp,by simp⟩
theorem jX.append{h:Array Obj}{m:Nat→Nat}{n:Nat}{xs ys:List (List V)}{k l:List Value}(hx:jX h m n xs k)(hy:jX h m n ys l):jX h m n (xs++ys) (k++l) where
 len:=by simp[hx.len,hy.len,qi]
 row:=fun i row hr=>by
  rw[oQ]at hr;split at hr
  ·exact hx.row i row hr
  ·exact hy.row _ row hr
 cell:=fun i row j v hr hj=>by
  rw[oQ]at hr;split at hr
  ·rename_i hi
   obtain⟨p,y,q,r⟩:=hx.cell i row j v hr hj;have:=eQ q;exact⟨p,y,by rw[nG this];exact q,r⟩
  ·rename_i hi
   obtain⟨p,y,q,r⟩:=hy.cell _ row j v hr hj;refine⟨p,y,?_,r⟩;have e:i*n+j=xs.length*n+((i-xs.length)*n+j):=by
    rw[←Cr,← qi];congr 2;omega
   rw[qg (by rw[hx.len];omega),hx.len,e,V5]
   exact q
theorem jX.get{h:Array Obj}{m:Nat→Nat}{n:Nat}{ys:List (List V)}{l:List Value}(hr:jX h m n ys l){k:Nat}{y:Value}(hy:l[k]?=some y) :
  ∃v:V,fg h m v y:=by
 have hk:=eQ hy;rw[hr.len]at hk;have hn:0<n:=by
  rcases mq n with e|e
  ·subst e;simp at hk
  ·exact e
 have h1:k / n<ys.length:=V6 (by rw[Kx];exact hk)
 have h2:=Kw k hn;have h3:=hr.row (k / n) ys[k / n] (fN h1);obtain⟨_,z,hz,hv⟩:=hr.cell (k / n) ys[k / n] (k % n) (ys[k / n][k % n]'(by omega)) (fN h1) (fN (by omega))
 rw[Kx,Nat.div_add_mod,hy]at hz;cases hz;exact⟨_,hv⟩
theorem jX.CF{h:Array Obj}{m:Nat→Nat}{n:Nat}{ys:List (List V)}{l:List Value}(hr:jX h m n ys l):∀y∈l,y.oneCell'=true:=fun y hy=>by
 obtain⟨k,hk⟩:=nH.1 hy;obtain⟨v,hv⟩:=hr.get hk;exact hv.CF
def Hm(h:Array Obj)(m:Nat→Nat)(n:Nat)(ys:List (List V))(x:Value):Prop :=
 (ys=[]∧∃base cap,x=.slice base 0 cap)∨∃b off cap l,x=.slice (some ⟨b,off,none⟩) ys.length cap∧ys.length≤cap∧(∀(j:Nat) (y:Value),l[j]?=some y→cellAt h b (off+j)=some y)∧jX h m n ys l
theorem KM{h:Array Obj}{m:Nat→Nat}{n:Nat}{tok:Option Nat}{ys:List (List V)}{x:Value}(hr:fg h m (.slice tok n ys) x):(ys=[]∧x=.slice none 0 0)∨(ys=[]∧∃a cap,x=.slice (some a) 0 cap) ∨
  ∃b off cap l,x=.slice (some ⟨b,off,none⟩) ys.length cap∧ys.length≤cap∧(∀(j:Nat) (y:Value),l[j]?=some y→cellAt h b (off+j)=some y)∧jX h m n ys l:=by
 cases hr with
 |nil=>exact .inl ⟨rfl,rfl⟩
 |empty _ _ a cap=>exact .inr (.inl ⟨rfl,a,cap,rfl⟩)
 |slice _ _ _ b off cap zs hb eo iH hc hv hp hm =>
  refine .inr <| .inr ⟨b,off,cap,(List.range (ys.length*n)).map (fun k=>(cellAt h b (off+k)).getD undef),rfl,eo,fun j y hj=>?_,by simp,iH,fun i row j v hi hj=>⟨hp i row j v hi hj,zs i j,?_,hv i row j v hi hj⟩⟩
  ·have bE:=eQ hj
   simp at bE;simp[bE]at hj;have hn:0<n:=by
    rcases mq n with e|e
    ·subst e;simp at bE
    ·exact e
   have h1:j / n<ys.length:=V6 (by rw[Kx];exact bE)
   have h2:=Kw j hn;have h3:=iH (j / n) ys[j / n] (fN h1);have h4:=hc (j / n) ys[j / n] (j % n) (ys[j / n][j % n]'(by omega)) (fN h1) (fN (by omega))
   rw[Cr,Kx,Nat.div_add_mod]at h4;rw[h4]at hj ⊢;simpa using hj
  ·have h3:=iH i row hi
   have h5:=eQ hj;have h6:=OQ (eQ hi) (h3 ▸ h5);have h4:=hc i row j v hi hj;rw[Cr]at h4;simp[h6,h4]
theorem Wo{h:Array Obj}{m:Nat→Nat}{n:Nat}{tok:Option Nat}{ys:List (List V)}{x:Value}(hr:fg h m (.slice tok n ys) x):Hm h m n ys x:=by
 rcases KM hr with⟨h1,h2⟩ | ⟨h1,a,cap,h2⟩ | h
 ·exact .inl ⟨h1,none,0,h2⟩
 ·exact .inl ⟨h1,some a,cap,h2⟩
 ·exact .inr h
theorem CJ{h:Array Obj}{m:Nat→Nat}{n:Nat}{ys:List (List V)}{l:List Value}(hr:jX h m n ys l){b off cap:Nat}(hb:b<h.size)(eo:ys.length≤cap)
  (hc:∀(j:Nat) (y:Value),l[j]?=some y→cellAt h b (off+j)=some y) (hm:off+ys.length*n≤m b) (tok:Option Nat) :
  fg h m (.slice tok n ys) (.slice (some ⟨b,off,none⟩) ys.length cap):=by
 refine .slice tok n ys b off cap (fun i j=>(l[i*n+j]?).getD undef) hb eo hr.row (fun i row j v hi hj=>?_) (fun i row j v hi hj=>?_) (fun i row j v hi hj=>(hr.cell i row j v hi hj).1) hm
 ·obtain⟨_,y,hy,_⟩:=hr.cell i row j v hi hj
  rw[Cr,hc _ _ hy,hy];rfl
 ·obtain⟨_,y,hy,hv⟩:=hr.cell i row j v hi hj
  rw[hy];exact hv
theorem Hn{X:Cx}{sh:Option Nat}{v u:V}{y:Value}(h:el sh v=some u)(hr:bb X v y):u.plain=true∧fg X.h X.g.m u y:=by
 unfold el at h;split at h
 ·cases h;cases hr with|plain h _=>exact⟨rfl,h⟩
 ·cases h;cases hr with|plain h _=>exact⟨rfl,h⟩
 ·cases h;cases hr with|plain h _=>exact⟨rfl,h⟩
 ·split at h
  ·cases h;rw[oV hr];exact⟨rfl,.cb⟩
  ·cases h;rw[oV hr];exact⟨rfl,.nil _ _⟩
  ·cases h
 ·cases h
  cases hr with
  |plain h _ =>
   refine⟨rfl,?_⟩;cases h with
   |nil=>exact .nil _ _
   |empty _ _ a cap=>exact .empty _ _ a cap
   |slice _ _ _ b off cap zs hb eo iH hc hv hp hm=>exact .slice _ _ _ b off cap zs hb eo iH hc hv hp hm
 ·cases h
  rcases uk hr with rfl | ⟨a,rfl⟩
  ·exact⟨rfl,.nil _ _⟩
  ·exact⟨rfl,.empty _ _ a 0⟩
 ·cases h
  obtain⟨a,cap,rfl⟩:=He hr;exact⟨rfl,.empty _ _ a cap⟩
 ·cases h
theorem Ho:∀{sh:Sh} {vs us:List V},nb sh vs=some us→us.length=sh.length∧vs.length=sh.length
 |[],[],us,h=>by simp[nb]at h;subst h;simp
 |[],_::_,_,h=>by simp[nb]at h
 |_::_,[],_,h=>by simp[nb]at h
 |s::sh,v::vs,us,h=>by
  simp only[nb]at h;split at h
  ·rename_i u nP h1 h2
   cases h;obtain⟨a,b⟩:=Ho h2;simp[a,b]
  ·cases h
theorem KN:∀{sh:Sh} {vs us:List V},nb sh vs=some us→∀(j:Nat) (u:V),us[j]?=some u→∃v s,vs[j]?=some v∧el s v=some u
 |[],[],us,h,j,u,hu=>by simp[nb]at h;subst h;simp at hu
 |[],_::_,_,h,_,_,_=>by simp[nb]at h
 |_::_,[],_,h,_,_,_=>by simp[nb]at h
 |s::sh,v::vs,us,h,j,u,hu=>by
  simp only[nb]at h;split at h
  ·rename_i u' nP h1 h2
   cases h;cases j with
   |zero=>simp at hu;subst hu;exact⟨v,s,by simp,h1⟩
   |succ j=>obtain⟨z,t,p,q⟩:=KN h2 j u (by simpa using hu);exact⟨z,t,by simpa using p,q⟩
  ·cases h
theorem OR{sh:Sh}:∀{rs us:List (List V)},kc sh rs=some us→us.length=rs.length∧∀(i:Nat) (u:List V),us[i]?=some u→∃r,rs[i]?=some r∧nb sh r=some u
 |[],us,h=>by simp[kc]at h;subst h;simp
 |r::rs,us,h=>by
  simp only[kc]at h;split at h
  ·rename_i u' nP h1 h2
   cases h;obtain⟨a,b⟩:=OR h2;refine⟨by simp[a],fun i u hu=>?_⟩
   cases i with
   |zero=>simp at hu;subst hu;exact⟨r,by simp,h1⟩
   |succ i=>obtain⟨z,p,q⟩:=b i u (by simpa using hu);exact⟨z,by simpa using p,q⟩
  ·cases h
theorem Wp{sz:Nat}{cs:List V}:∀{n off i:Nat} {r:List V},(chunks sz cs off n)[i]?=some r→i<n∧r=(cs.drop (off+i*sz)).take sz
 |0,off,i,r,h=>by simp[chunks]at h
 |n+1,off,i,r,h=>by
  simp only[chunks]at h;cases i with
  |zero=>simp at h;subst h;simp
  |succ i =>
   obtain⟨a,b⟩:=Wp (n:=n) (by simpa using h)
   refine⟨by omega,?_⟩
   rw[b,oS];congr 2;omega
theorem OS{sz:Nat}{cs:List V}:∀{n off:Nat},(chunks sz cs off n).length=n
 |0,off=>rfl
 |n+1,off=>by simp[chunks,OS]
theorem KO{X:Cx}{sh:Sh}{cs:List V}{c:Array Value}(ew:∀(j:Nat) (v:V),cs[j]?=some v→∃y,c[j]?=some y∧bb X v y){off n:Nat}(hle:off+n*sh.length≤cs.length)
  {ys:List (List V)} (h:kc sh (chunks sh.length cs off n)=some ys):ys.length=n∧jX X.h X.g.m sh.length ys ((c.toList.drop off).take (n*sh.length)):=by
 obtain⟨h1,h2⟩:=OR h;rw[OS]at h1;have hc:cs.length≤c.size:=by
  rcases cF c.size cs.length with h|h
  ·obtain⟨y,hy,_⟩:=ew c.size cs[c.size] (fN h)
   simp at hy
  ·exact h
 refine⟨h1,by simp[h1];omega,fun i row hr=>?_,fun i row j v hr hj=>?_⟩
 ·obtain⟨r,qW,oZ⟩:=h2 i row hr
  exact(Ho oZ).1
 ·obtain⟨r,qW,oZ⟩:=h2 i row hr
  obtain⟨z,s,hz,wV⟩:=KN oZ j v hj;obtain⟨hi,rfl⟩:=Wp qW;have qX:=eQ hj;rw[(Ho oZ).1]at qX;simp only[iP,mn,qX,if_true]at hz;obtain⟨y,hy,hx⟩:=ew _ z hz;obtain⟨p,q⟩:=Hn wV hx;refine⟨p,y,?_,q⟩;have:=OQ hi qX;rw[iP,aM this,mn,← Cr];simpa using hy
theorem Wq(hR:R E g S a w){sh:Sh}{v:V}{x:Value}(hr:bb (S.cx g w) v x){ys:List (List V)}(h:S.rows sh v=some ys):Hm w.heap g.m sh.length ys x:=by
 unfold St.rows at h;split at h
 ·cases h;exact .inl ⟨rfl,none,0,oV hr⟩
 ·rename_i tk n es
  cases hn:n==sh.length with
  |false=>simp[hn]at h
  |true =>
   simp only[hn,bG,Option.some.injEq]at h;have:=eq_of_beq hn;subst this;subst h;cases hr with
   |plain h _=>exact Wo h
 ·cases h
  rcases uk hr with e | ⟨a,e⟩
  ·exact .inl ⟨rfl,none,0,e⟩
  ·exact .inl ⟨rfl,some a,0,e⟩
 ·cases h
  obtain⟨a,cap,e⟩:=He hr;exact .inl ⟨rfl,some a,cap,e⟩
 ·cases h
theorem Hp(hR:R E g S a w){sh:Sh}{v:V}{x:Value}(hr:bb (S.cx g w) v x){ys:List (List V)}(h:S.sk sh v=some ys):∃id n,v=.bR id sh.length n∧ys.length=n∧(n=0∧lL x∨∃cap,n≤cap∧x=.slice (some ⟨g.κ id,0,none⟩) n cap ∧
  ∃c e,w.heap[g.κ id]?=some (.cells c e (0,0))∧n*sh.length≤c.size∧jX w.heap g.m sh.length ys (c.toList.take (n*sh.length))∧g.ow (g.κ id)=.obj id∧E.w0.heap.size≤g.κ id∧g.m (g.κ id)=0):=by
 unfold St.sk at h;split at h
 ·rename_i id off n
  split at h
  ·rename_i cs ho
   cases hle:((off==sh.length)&&Nat.blt 0 sh.length&&Nat.ble (n*sh.length) cs.length) with
   |false=>simp[hle]at h
   |true =>
    simp only[hle,bG]at h;simp only[bS,dO]at hle;obtain⟨⟨rfl,gy⟩,hle⟩:=hle;have gy:0<sh.length:=by simpa [AZ] using gy
    have hle:=il hle;rcases (qR hr).symm with⟨h0,hz,_⟩ | ⟨cap,eo,fU,hx⟩
    ·subst h0
     refine⟨id,0,rfl,?_,.inl ⟨rfl,hz⟩⟩;simp only[chunks,kc,Option.some.injEq]at h;subst h;rfl
    rcases hR.aW id _ ho with⟨h0,wW⟩ | ⟨cr,fZ,hm,c,e,hh,_,hj⟩
    ·subst h0
     have fU:cap*sh.length=0:=fU.trans wW;have yo:cap=0:=by rcases Ky.1 fU with h|h<;>omega
     subst yo;obtain rfl:n=0:=by omega
     refine⟨id,0,rfl,?_,.inl ⟨rfl,.inr ⟨_,hx⟩⟩⟩;simp only[chunks,kc,Option.some.injEq]at h;subst h;rfl
    obtain⟨h1,h2⟩:=KO (X:=S.cx g w) (c:=c) (off:=0) (fun j v hv=>(hj j v hv).2) (by omega) h
    refine⟨id,n,rfl,h1,.inr ⟨cap,eo,hx,c,e,hh,?_,by have:=h2;simp only[uY]at this;exact this,cr,fZ,hm⟩⟩
    have:=h2.len;simp at this;rw[h1]at this;rcases cF c.size (n*sh.length) with h3|h3
    ·rcases mq (n*sh.length) with h4|h4
     ·have hc:cs.length≤c.size:=by
       rcases cF c.size cs.length with h|h
       ·obtain⟨_,y,hy,_⟩:=hj c.size cs[c.size] (fN h)
        simp at hy
       ·exact h
      omega
     ·omega
    ·exact h3
  ·cases h
 ·cases h
theorem Hq(hR:R E g S a w){oy:Option Nat}{sh:Sh}{v:V}{x:Value}(hr:bb (S.cx g w) v x){ys:List (List V)}(h:S.iR oy sh v=some ys):Hm w.heap g.m sh.length ys x:=by
 unfold St.iR at h;split at h
 ·exact Wq hR hr h
 ·split at h
  ·rename_i j _ i s n
   cases hc:i==j with
   |false=>simp[hc]at h
   |true =>
    simp only[hc,bG]at h;obtain⟨id,n',e,hl,hz⟩:=Hp hR hr h;rcases hz with⟨h0,hz⟩ | ⟨cap,eo,hx,c,e2,hh,hle,iH,_⟩
    ·have:ys=[]:=oo.1 (by omega)
     refine .inl ⟨this,?_⟩;rcases hz with hz | ⟨ad,hz⟩
     ·exact⟨none,0,hz⟩
     ·exact⟨some ad,0,hz⟩
    ·refine .inr ⟨_,0,cap,_,by rw[hl];exact hx,by omega,fun k y hy=>?_,iH⟩
     rw[jV];unfold cellAt;rw[hh];rw[iP]at hy;split at hy
     ·simpa using hy
     ·cases hy
  ·rename_i j _ i s off n
   cases hc:i==j with
   |false=>simp[hc]at h
   |true =>
    simp only[hc,bG]at h;unfold St.KH at h;split at h
    ·rename_i cs ew
     cases hle:((s==sh.length)&&Nat.blt 0 sh.length&&Nat.ble (off*sh.length+n*sh.length) cs.length) with
     |false=>simp[hle]at h
     |true =>
      simp only[hle,bG]at h;simp only[bS,dO]at hle;obtain⟨⟨rfl,gy⟩,hle⟩:=hle;have gy:0<sh.length:=by simpa [AZ] using gy
      have hle:=il hle;obtain⟨cap,eo,hx⟩:∃cap,n≤cap∧x=.slice (some ⟨g.κ i,off*sh.length,none⟩) n cap:=by
       cases hr with
       |plain h _=>cases h
       |fp _ _ _ _ cap h=>exact⟨cap,h,rfl⟩
      rcases mq n with h0|h0
      ·subst h0
       simp only[chunks,kc,Option.some.injEq]at h;exact .inl ⟨h.symm,_,cap,hx⟩
      have hpn:=Kz h0 gy;have cf:cs≠[]:=by intro e;subst e;simp at hle;omega
      obtain⟨cr,fZ,hm,c,e,hh,_,hj⟩:=(hR.aW i cs ew).resolve_left (fun h=>cf h.1);obtain⟨h1,h2⟩:=KO (X:=S.cx g w) (c:=c) (off:=off*sh.length) (fun j v hv=>(hj j v hv).2) hle h;refine .inr ⟨_,off*sh.length,cap,_,by rw[h1];exact hx,by omega,fun k y hy=>?_,h2⟩
      unfold cellAt;rw[hh];rw[iP]at hy;split at hy
      ·rw[mn]at hy
       simpa using hy
      ·cases hy
    ·cases h
  ·exact Wq hR hr h
theorem R.OT(hR:R E g S a w){f:Nat}{c:Array Value}{e:TypeId}(hw:w'.heap=w.heap.push (.cells c e (0,0)))(h1:w'.os=w.os)(h2:w'.tape=w.tape)(h3:w'.output=w.output)
  {n:Nat} {ys:List (List V)} {l:List Value} (gy:0<ys.length) (hf:S.eN f∨∃k,look f S.bj=some k∧k<ys.length)
  (hl:jX w.heap g.m n ys l) (hc:∀(j:Nat) (y:Value),l[j]?=some y→c[j]?=some y) {cap:Nat} (eo:ys.length≤cap) (eg:cap*n≤c.size) :
  ∃g',R E g' { S with bj:=(f,ys.length)::S.bj } a w' ∧
   bb (({ S with bj:=(f,ys.length)::S.bj }:St).cx g' w') (.slice (some f) n ys) (.slice (some ⟨w.heap.size,0,none⟩) ys.length cap):=by
 let g':Gh:={ g with m:=c6 g.m w.heap.size (ys.length*n),τ:=c6 g.τ f (some w.heap.size),ow:=c6 g.ow w.heap.size (.tok f) }
 have t:Touch E g S w g' ((f,ys.length)::S.bj) S.aA.length w' w.heap.size none (some f):=Hj hR hw h1 h2 h3 (fun b hb=>fY _ _ hb) (fun b hb=>fY _ _ hb)
  (fun i _=>rfl) (fun i _=>rfl) (fun i hi=>fY _ _ (fun e=>hi (by rw[e]))) (fun i hi=>by rw[dz,ay (fun e=>hi (by rw[e]))]) (fun i _=>rfl) (bV _) (fun i a b=>absurd a (by omega)) (fun i e=>by(have e:c6 g.ow w.heap.size (.tok f) w.heap.size=.aA i:=e);rw[dL]at e;cases e)
 have lP:∀i,jg (S.cx g w) ⟨w'.heap,g',S.aA.length,(f,ys.length)::S.bj⟩ i∨S.eN i:=fun i=>by
  by_cases hi:f=i
  ·subst hi
   rcases hf with hf | ⟨k,hk,bE⟩
   ·exact .inr hf
   ·refine .inl ⟨rfl,rfl,fun k' ke=>⟨k,hk,?_,fun e=>?_⟩⟩
    ·simp only[dz,if_true,Option.some.injEq]at ke;omega
    ·simp only[dz,if_true,Option.some.injEq]at ke;omega
  ·exact .inl (t.keeps hR (fun e=>by cases e) (fun e=>hi (by cases e;rfl)) (fun h=>absurd h (gU _)))
 have kT:=Hl hw;refine⟨g',R.oA t hR rfl rfl lP (fun s v hs=>.inl hs) (fun i cs ho=>.inl ⟨ho,(fun e=>by cases e),fun h=>absurd h (gU _)⟩) (fun i k b hi hb=>?_)
  (fun i o ho=>.inl ⟨ho,fun h=>absurd h (gU _)⟩),?_⟩
 ·by_cases hif:f=i
  ·subst hif
   have oB:c6 g.τ f (some w.heap.size) f=some b:=hb;rw[dL]at oB;cases oB;exact .inr ⟨dL _ _ _,.inl hR.same.size,by rw[hw];simp⟩
  ·exact .inl ⟨(fun e=>hif (by cases e;rfl)),fun h=>absurd h (gU _)⟩
 ·have hm:g'.m w.heap.size=ys.length*n:=dL _ _ _
  refine .plain (CJ (m:=g'.m) (l:=l) ?_ (by show _<w'.heap.size;rw[hw];simp) eo (fun j y hj=>?_) (by omega) _) (fun i n' pS he k hk=>?_)
  ·exact hl.mono t.le
  ·show cellAt w'.heap _ _=_
   rw[kR kT,jV];exact hc j y hj
  ·cases he
   simp only[St.cx,dz,if_true,Option.some.injEq]at hk;subst hk;exact⟨bV _,fun _=>.inr ⟨w.heap.size,0,cap,c,e,dL _ _ _,rfl,by show g'.m _=_;rw[hm];omega,kT,by omega,rfl,gy⟩⟩
theorem R.KP(hR:R E g S a w){f:Nat}(hf:S.eN f):∃g',R E g' { S with bj:=(f,0)::S.bj } a w ∧
  (∀n x,lL x→bb (({ S with bj:=(f,0)::S.bj }:St).cx g' w) (.slice (some f) n []) x)∧∀v x,bb (S.cx g w) v x→v.cq f=false→bb (({ S with bj:=(f,0)::S.bj }:St).cx g' w) v x:=by
 let g':Gh:={ g with τ:=c6 g.τ f none }
 have t:Touch E g S w g' ((f,0)::S.bj) S.aA.length w w.heap.size none (some f) :=
  {os:=rfl,tape:=rfl,output:=rfl,size:=bV _,heap:=fun _ _ _=>rfl,m:=fun _ _=>rfl,ow:=fun _ _=>rfl,κ:=fun _ _=>rfl,cp:=fun _ _=>rfl,
   τ:=fun i hi=>fY _ _ (fun e=>hi (by rw[e])),T:=fun i hi=>by rw[dz,ay (fun e=>hi (by rw[e]))],γ:=fun _ _=>rfl,eK:=bV _,
   γnew:=fun i a b=>absurd a (by omega),fresh:=.inl hR.same.size,iq:=fun _ _ h _=>absurd hR.same.size (Ct h),lv:=fun i h=>hR.Er h (bV _),kb:=fun _ _ _ hy=>hy,qn:=fun h=>absurd h (gU _) }
 have Wr:∀i,jg (S.cx g w) ⟨w.heap,g',S.aA.length,(f,0)::S.bj⟩ i∨i=f:=fun i=>by
  by_cases hi:f=i
  ·exact .inr hi.symm
  ·exact .inl (t.keeps hR (fun e=>by cases e) (fun e=>hi (by cases e;rfl)) (fun h=>absurd h (gU _)))
 refine⟨g',R.oA t hR rfl rfl (fun i=>(Wr i).imp (fun z=>z) fun e=>by rw[e];exact hf) (fun s v hs=>.inl hs) (fun i cs ho=>.inl ⟨ho,(fun e=>by cases e),fun h=>absurd h (gU _)⟩) (fun i k b hi hb=>?_)
  (fun i o ho=>.inl ⟨ho,fun h=>absurd h (gU _)⟩),fun n x hz=>?_,fun v x hx hm=>hx.mono t.le fun i=>(Wr i).imp (fun z=>z) fun e=>by rw[e];exact hm⟩
 ·by_cases hif:f=i
  ·subst hif
   have oB:c6 g.τ f none f=some b:=hb;rw[dL]at oB;cases oB
  ·exact .inl ⟨(fun e=>hif (by cases e;rfl)),fun h=>absurd h (gU _)⟩
 ·refine .plain (by rcases hz with rfl | ⟨a,rfl⟩<;>first|exact .nil _ _|exact .empty _ _ a 0) (fun i n' pS he k hk=>?_)
  cases he;simp only[St.cx,dz,if_true,Option.some.injEq]at hk;subst hk;exact⟨bV _,fun _=>.inl ⟨rfl,hz⟩⟩
theorem R.again(hR:R E g S a w){f k:Nat}(hf:look f S.bj=some k):R E g { S with bj:=(f,k)::S.bj } a w∧∀v x,bb (S.cx g w) v x→bb (({ S with bj:=(f,k)::S.bj }:St).cx g w) v x:=by
 have hl:∀i,look i ((f,k)::S.bj)=look i S.bj:=fun i=>by
  rw[dz];by_cases h:f=i
  ·subst h;rw[aM rfl,hf]
  ·rw[ay h]
 have hk:∀i,jg (S.cx g w) (({ S with bj:=(f,k)::S.bj }:St).cx g w) i:=fun i=>⟨rfl,rfl,fun k' h=>⟨k',(hl i).symm.trans h,bV _,fun _=>⟨rfl,fun _ _=>⟨rfl,fun c _ h=>⟨c,h,rfl⟩⟩⟩⟩⟩;have le:Le (S.cx g w) (({ S with bj:=(f,k)::S.bj }:St).cx g w):=⟨bV _,fun _ _ _ _ h=>h,fun _ _=>bV _,bV _,fun _ _=>rfl⟩;refine⟨⟨fun s v hs=>?_,fun id cs ho=>?_,fun f' k' b OU hb=>?_,hR.aA,hR.defers,hR.js,hR.same⟩,fun v x hx=>hx.mono le fun i=>.inl (hk i)⟩
 ·obtain⟨x,h1,h2⟩:=hR.env s v hs
  exact⟨x,h1,h2.mono le fun i=>.inl (hk i)⟩
 ·rcases hR.aW id cs ho with h0 | ⟨h1,h2,h3,c,e,h4,fU,h5⟩
  ·exact .inl h0
  refine .inr ⟨h1,h2,h3,c,e,h4,fU,fun j v hj=>?_⟩;obtain⟨h6,y,h7,h8⟩:=h5 j v hj;exact⟨h6,y,h7,h8.mono le fun i=>.inl (hk i)⟩
 ·exact hR.bj f' k' b (by rw[←hl f'];exact OU) hb
theorem R.aia(hR:R E g S a w){f b:Nat}{k:Nat}(hk:look f S.bj=some k)(hτ:g.τ f=some b){c:Array Value}{e:TypeId}(hb:w.heap[b]?=some (.cells c e (0,0)))
  {off n cap:Nat} (hm:g.m b=off+k*n) (jt:off=0) {es ys:List (List V)} {l0 l:List Value} (mw:es.length=k) (hy:ys≠[]) (eo:(k+ys.length)≤cap) (fC:off+cap*n≤c.size)
  (h0:jX w.heap g.m n es l0) (yo:∀(j:Nat) (y:Value),l0[j]?=some y→cellAt w.heap b (off+j)=some y) (hl:jX w.heap g.m n ys l)
  {c':Array Value} (qV:c'=(c.toList.take (off+k*n)++l++c.toList.drop (off+k*n+l.length)).toArray) :
  ∃g',R E g' { S with bj:=(f,k+ys.length)::S.bj } a (w.setRow b c') ∧
   bb (({ S with bj:=(f,k+ys.length)::S.bj }:St).cx g' (w.setRow b c')) (.slice (some f) n (es++ys)) (.slice (some ⟨b,off,none⟩) (k+ys.length) cap):=by
 obtain⟨cr,fZ,Ws⟩:=hR.bj f k b hk hτ;have lq:=hl.len;have h1:(k+ys.length)*n≤cap*n:=tf n eo;rw[qi]at h1;have eg:c'.size=c.size:=by rw[qV];simp;omega
 have kT:(w.setRow b c').heap[b]?=some (.cells c' e (0,0)):=setRow_heap w b c c' e _ hb;have aib:∀i,i≠b→(w.setRow b c').heap[i]?=w.heap[i]?:=fun i hi=>by
  simp only[World.setRow,D8];rw[ay (by omega)]
 have hold:∀j,j<off+k*n→c'[j]?=c[j]?:=fun j hj=>by
  rw[qV];simp only[Ed,uW];rw[nG (by simp;omega)]
  simp[hj]
 have aic:∀(j:Nat) (y:Value),l[j]?=some y→c'[off+k*n+j]?=some y:=fun j y hj=>by
  have:=eQ hj;rw[qV];simp only[Ed,uW];rw[qg (by simp;omega),nG (by simp;omega),← hj]
  congr 1;simp;omega
 let g':Gh:={ g with m:=c6 g.m b (off+(k+ys.length)*n) }
 have zB:g'.m b=off+(k+ys.length)*n:=dL _ _ _;have t:Touch E g S w g' ((f,k+ys.length)::S.bj) S.aA.length (w.setRow b c') b none (some f) :=
  {os:=rfl,tape:=rfl,output:=rfl,size:=by simp,heap:=fun i hi _=>aib i hi,m:=fun i hi=>fY _ _ hi,ow:=fun _ _=>rfl,κ:=fun _ _=>rfl,cp:=fun _ _=>rfl,
   τ:=fun i hi=>rfl,T:=fun i hi=>by rw[dz,ay (fun e=>hi (by rw[e]))],γ:=fun _ _=>rfl,eK:=bV _,
   γnew:=fun i a b=>absurd a (by omega),fresh:=fZ.imp (fun z=>z) .inr,iq:=fun p q _ e=>by(have e:g.ow b=.cell p q:=e);rw[cr]at e;exact absurd e (fun e=>nomatch e),
   lv:=fun i e=>by(have e:g.ow b=.aA i:=e);rw[cr]at e;exact absurd e (fun e=>nomatch e)
   kb:=fun o y ho hy=>by
    rw[kR hb]at hy;rw[kR kT,hold o (by omega)]
    exact hy
   qn:=fun _=>by rw[zB,hm,qi];omega }
 have awM:0<ys.length:=Ck.2 hy;have lP:∀i,jg (S.cx g w) ⟨(w.setRow b c').heap,g',S.aA.length,(f,k+ys.length)::S.bj⟩ i:=fun i=>by
  by_cases hi:f=i
  ·subst hi
   refine⟨rfl,rfl,fun k' ke=>⟨k,hk,?_,fun e=>?_⟩⟩
   ·simp only[dz,if_true,Option.some.injEq]at ke;omega
   ·simp only[dz,if_true,Option.some.injEq]at ke;omega
  ·exact t.keeps hR (fun e=>by cases e) (fun e=>hi (by cases e;rfl)) (fun _ e=>hi (by rw[cr]at e;cases e;rfl))
 refine⟨g',R.oA t hR rfl rfl (fun i=>.inl (lP i)) (fun s v hs=>.inl hs) (fun i cs ho=>.inl ⟨ho,(fun e=>by cases e),fun _ e=>by rw[cr]at e;cases e⟩) (fun i k' b' hi oB=>?_)
  (fun i o ho=>.inl ⟨ho,fun _=>⟨fun e=>(by rw[cr]at e;cases e),fun _ e=>(by rw[cr]at e;cases e)⟩⟩),?_⟩
 ·by_cases hif:f=i
  ·subst hif
   have Wt:g.τ f=some b':=oB;rw[hτ]at Wt;cases Wt;exact .inr ⟨cr,fZ,by simpa using Ws⟩
  ·exact .inl ⟨(fun e=>hif (by cases e;rfl)),fun _ e=>hif (by rw[cr]at e;cases e;rfl)⟩
 ·have zF:=(h0.mono t.le).append (hl.mono t.le)
  have hlen:(es++ys).length=k+ys.length:=by simp[mw]
  rw[←hlen];refine .plain (CJ (m:=g'.m) zF (by show b<(w.setRow b c').heap.size;simpa using Ws) (by omega) (fun j y hj=>?_) (by rw[hlen];omega) _) (fun i n' pS he k' ke=>?_)
  ·show cellAt (w.setRow b c').heap b _=_
   rw[kR kT];have h0l:=h0.len;rw[mw]at h0l;rw[oQ]at hj;split at hj
   ·rename_i bE
    have h5:=yo j y hj;rw[kR hb]at h5;rw[hold _ (by omega)]
    exact h5
   ·rename_i bE
    have h6:=aic _ y hj;rw[show off+j=off+k*n+(j-l0.length) from by omega]
    exact h6
  ·cases he
   simp only[St.cx,dz,if_true,Option.some.injEq]at ke;have qp:k'=k+ys.length:=by rw[←ke,hlen]
   subst qp;exact⟨by omega,fun _=>.inr ⟨b,off,cap,c',e,hτ,by rw[hlen],zB,kT,by omega,jt,by omega⟩⟩
end
end Go.Vm

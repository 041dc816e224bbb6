/- The value machine, 6: rows of cells, slices that grow, stores, blocks that calls share. -/
import Derived.Test.YtcelmhaoipbdiaaGreatDoorVm5
namespace Go.Vm
set_option linter.all false
section
variable {P:Program} {E:Entry} {g g':Gh} {S S':St} {a:Act} {w w':World} {T':List (Nat×Nat)} {N' B:Nat}
structure jB(h:Array Obj)(m:Nat→Nat)(n:Nat)(ys:List (List V))(l:List Value):Prop where
 len:l.length=ys.length*n
 row:∀(i:Nat) (row:List V),ys[i]?=some row→row.length=n
 cell:∀(i:Nat) (row:List V) (j:Nat) (v:V),ys[i]?=some row→row[j]?=some v→v.plain=true∧∃y,l[i*n+j]?=some y∧fa h m v y
theorem ME{i k n j:Nat}(hi:i<k)(hj:j<n):i*n+j<k*n:=by
 have h:=rI n hi;rw[nU]at h;omega
theorem jB.mono{X X':Cx}(le:Le X X'){n:Nat}{ys:List (List V)}{l:List Value}(h:jB X.h X.g.m n ys l):jB X'.h X'.g.m n ys l :=
 ⟨h.len,h.row,fun i row j v hi hj=>by
  obtain⟨a,y,b,c⟩:=h.cell i row j v hi hj;exact⟨a,y,b,c.mono le⟩⟩
theorem jB.nil{h:Array Obj}{m:Nat→Nat}{n:Nat}:jB h m n [] []:=⟨by simp,by simp,by simp⟩
theorem jB.append{h:Array Obj}{m:Nat→Nat}{n:Nat}{xs ys:List (List V)}{k l:List Value}(hx:jB h m n xs k)(hy:jB h m n ys l):jB h m n (xs++ys) (k++l) where
 len:=by simp[hx.len,hy.len,px]
 row:=fun i row hr=>by
  rw[pj]at hr;split at hr
  ·exact hx.row i row hr
  ·exact hy.row _ row hr
 cell:=fun i row j v hr hj=>by
  rw[pj]at hr;split at hr
  ·rename_i hi
   obtain⟨p,y,q,r⟩:=hx.cell i row j v hr hj;have:=eJ q;exact⟨p,y,by rw[sW this];exact q,r⟩
  ·rename_i hi
   obtain⟨p,y,q,r⟩:=hy.cell _ row j v hr hj;refine⟨p,y,?_,r⟩;have e:i*n+j=xs.length*n+((i-xs.length)*n+j):=by
    rw[←AZ,← px];congr 2;omega
   rw[u5 (by rw[hx.len];omega),hx.len,e,SQ]
   exact q
theorem jB.get{h:Array Obj}{m:Nat→Nat}{n:Nat}{ys:List (List V)}{l:List Value}(hr:jB h m n ys l){k:Nat}{y:Value}(hy:l[k]?=some y) :
  ∃v:V,fa h m v y:=by
 have hk:=eJ hy;rw[hr.len]at hk;have hn:0<n:=by
  rcases mw n with e|e
  ·subst e;simp at hk
  ·exact e
 have h1:k / n<ys.length:=SR (by rw[IH];exact hk)
 have h2:=IG k hn;have h3:=hr.row (k / n) ys[k / n] (gG h1);obtain⟨_,z,hz,hv⟩:=hr.cell (k / n) ys[k / n] (k % n) (ys[k / n][k % n]'(by omega)) (gG h1) (gG (by omega))
 rw[IH,Nat.div_add_mod,hy]at hz;cases hz;exact⟨_,hv⟩
theorem jB.Ba{h:Array Obj}{m:Nat→Nat}{n:Nat}{ys:List (List V)}{l:List Value}(hr:jB h m n ys l):∀y∈l,y.oneCell'=true:=fun y hy=>by
 obtain⟨k,hk⟩:=qB.1 hy;obtain⟨v,hv⟩:=hr.get hk;exact hv.Ba
def Fm(h:Array Obj)(m:Nat→Nat)(n:Nat)(ys:List (List V))(x:Value):Prop :=
 (ys=[]∧∃base cap,x=.slice base 0 cap)∨∃b off cap l,x=.slice (some ⟨b,off,none⟩) ys.length cap∧ys.length≤cap∧(∀(j:Nat) (y:Value),l[j]?=some y→cellAt h b (off+j)=some y)∧jB h m n ys l
theorem IY{h:Array Obj}{m:Nat→Nat}{n:Nat}{tok:Option Nat}{ys:List (List V)}{x:Value}(hr:fa h m (.slice tok n ys) x):(ys=[]∧x=.slice none 0 0)∨(ys=[]∧∃a cap,x=.slice (some a) 0 cap) ∨
  ∃b off cap l,x=.slice (some ⟨b,off,none⟩) ys.length cap∧ys.length≤cap∧(∀(j:Nat) (y:Value),l[j]?=some y→cellAt h b (off+j)=some y)∧jB h m n ys l:=by
 cases hr with
 |nil=>exact .inl ⟨rfl,rfl⟩
 |empty _ _ a cap=>exact .inr (.inl ⟨rfl,a,cap,rfl⟩)
 |slice _ _ _ b off cap zs hb en iw hc hv hp hm =>
  refine .inr <| .inr ⟨b,off,cap,(List.range (ys.length*n)).map (fun k=>(cellAt h b (off+k)).getD undef),rfl,en,fun j y hj=>?_,by simp,iw,fun i row j v hi hj=>⟨hp i row j v hi hj,zs i j,?_,hv i row j v hi hj⟩⟩
  ·have bB:=eJ hj
   simp at bB;simp[bB]at hj;have hn:0<n:=by
    rcases mw n with e|e
    ·subst e;simp at bB
    ·exact e
   have h1:j / n<ys.length:=SR (by rw[IH];exact bB)
   have h2:=IG j hn;have h3:=iw (j / n) ys[j / n] (gG h1);have h4:=hc (j / n) ys[j / n] (j % n) (ys[j / n][j % n]'(by omega)) (gG h1) (gG (by omega))
   rw[AZ,IH,Nat.div_add_mod]at h4;rw[h4]at hj ⊢;simpa using hj
  ·have h3:=iw i row hi
   have h5:=eJ hj;have h6:=ME (eJ hi) (h3 ▸ h5);have h4:=hc i row j v hi hj;rw[AZ]at h4;simp[h6,h4]
theorem Te{h:Array Obj}{m:Nat→Nat}{n:Nat}{tok:Option Nat}{ys:List (List V)}{x:Value}(hr:fa h m (.slice tok n ys) x):Fm h m n ys x:=by
 rcases IY hr with⟨h1,h2⟩ | ⟨h1,a,cap,h2⟩ | h
 ·exact .inl ⟨h1,none,0,h2⟩
 ·exact .inl ⟨h1,some a,cap,h2⟩
 ·exact .inr h
theorem Bf{h:Array Obj}{m:Nat→Nat}{n:Nat}{ys:List (List V)}{l:List Value}(hr:jB h m n ys l){b off cap:Nat}(hb:b<h.size)(en:ys.length≤cap)
  (hc:∀(j:Nat) (y:Value),l[j]?=some y→cellAt h b (off+j)=some y) (hm:off+ys.length*n≤m b) (tok:Option Nat) :
  fa h m (.slice tok n ys) (.slice (some ⟨b,off,none⟩) ys.length cap):=by
 refine .slice tok n ys b off cap (fun i j=>(l[i*n+j]?).getD undef) hb en hr.row (fun i row j v hi hj=>?_) (fun i row j v hi hj=>?_) (fun i row j v hi hj=>(hr.cell i row j v hi hj).1) hm
 ·obtain⟨_,y,hy,_⟩:=hr.cell i row j v hi hj
  rw[AZ,hc _ _ hy,hy];rfl
 ·obtain⟨_,y,hy,hv⟩:=hr.cell i row j v hi hj
  rw[hy];exact hv
theorem Fo{X:Cx}{sh:Option Nat}{v u:V}{y:Value}(h:el sh v=some u)(hr:aZ X v y):u.plain=true∧fa X.h X.g.m u y:=by
 unfold el at h;split at h
 ·cases h;cases hr with|plain h _=>exact⟨rfl,h⟩
 ·cases h;cases hr with|plain h _=>exact⟨rfl,h⟩
 ·cases h;cases hr with|plain h _=>exact⟨rfl,h⟩
 ·split at h
  ·cases h;rw[nY hr];exact⟨rfl,.b9⟩
  ·cases h;rw[nY hr];exact⟨rfl,.nil _ _⟩
  ·cases h
 ·cases h
  cases hr with
  |plain h _ =>
   refine⟨rfl,?_⟩;cases h with
   |nil=>exact .nil _ _
   |empty _ _ a cap=>exact .empty _ _ a cap
   |slice _ _ _ b off cap zs hb en iw hc hv hp hm=>exact .slice _ _ _ b off cap zs hb en iw hc hv hp hm
 ·cases h
  rcases ta hr with rfl | ⟨a,rfl⟩
  ·exact⟨rfl,.nil _ _⟩
  ·exact⟨rfl,.empty _ _ a 0⟩
 ·cases h
  obtain⟨a,cap,rfl⟩:=Fe hr;exact⟨rfl,.empty _ _ a cap⟩
 ·cases h
theorem Fp:∀{sh:Sh} {vs us:List V},my sh vs=some us→us.length=sh.length∧vs.length=sh.length
 |[],[],us,h=>by simp[my]at h;subst h;simp
 |[],_::_,_,h=>by simp[my]at h
 |_::_,[],_,h=>by simp[my]at h
 |s::sh,v::vs,us,h=>by
  simp only[my]at h;split at h
  ·rename_i u m6 h1 h2
   cases h;obtain⟨a,b⟩:=Fp h2;simp[a,b]
  ·cases h
theorem IZ:∀{sh:Sh} {vs us:List V},my sh vs=some us→∀(j:Nat) (u:V),us[j]?=some u→∃v s,vs[j]?=some v∧el s v=some u
 |[],[],us,h,j,u,hu=>by simp[my]at h;subst h;simp at hu
 |[],_::_,_,h,_,_,_=>by simp[my]at h
 |_::_,[],_,h,_,_,_=>by simp[my]at h
 |s::sh,v::vs,us,h,j,u,hu=>by
  simp only[my]at h;split at h
  ·rename_i u' m6 h1 h2
   cases h;cases j with
   |zero=>simp at hu;subst hu;exact⟨v,s,by simp,h1⟩
   |succ j=>obtain⟨z,t,p,q⟩:=IZ h2 j u (by simpa using hu);exact⟨z,t,by simpa using p,q⟩
  ·cases h
theorem MF{sh:Sh}:∀{rs us:List (List V)},kH sh rs=some us→us.length=rs.length∧∀(i:Nat) (u:List V),us[i]?=some u→∃r,rs[i]?=some r∧my sh r=some u
 |[],us,h=>by simp[kH]at h;subst h;simp
 |r::rs,us,h=>by
  simp only[kH]at h;split at h
  ·rename_i u' m6 h1 h2
   cases h;obtain⟨a,b⟩:=MF h2;refine⟨by simp[a],fun i u hu=>?_⟩
   cases i with
   |zero=>simp at hu;subst hu;exact⟨r,by simp,h1⟩
   |succ i=>obtain⟨z,p,q⟩:=b i u (by simpa using hu);exact⟨z,by simpa using p,q⟩
  ·cases h
theorem Tg{sz:Nat}{cs:List V}:∀{n off i:Nat} {r:List V},(chunks sz cs off n)[i]?=some r→i<n∧r=(cs.drop (off+i*sz)).take sz
 |0,off,i,r,h=>by simp[chunks]at h
 |n+1,off,i,r,h=>by
  simp only[chunks]at h;cases i with
  |zero=>simp at h;subst h;simp
  |succ i =>
   obtain⟨a,b⟩:=Tg (n:=n) (by simpa using h)
   refine⟨by omega,?_⟩
   rw[b,nU];congr 2;omega
theorem MG{sz:Nat}{cs:List V}:∀{n off:Nat},(chunks sz cs off n).length=n
 |0,off=>rfl
 |n+1,off=>by simp[chunks,MG]
theorem MH{X:Cx}{sh:Sh}{cs:List V}{c:Array Value}(eB:∀(j:Nat) (v:V),cs[j]?=some v→∃y,c[j]?=some y∧aZ X v y){off n:Nat}(hle:off+n*sh.length≤cs.length)
  {ys:List (List V)} (h:kH sh (chunks sh.length cs off n)=some ys):ys.length=n∧jB X.h X.g.m sh.length ys ((c.toList.drop off).take (n*sh.length)):=by
 obtain⟨h1,h2⟩:=MF h;rw[MG]at h1;have hc:cs.length≤c.size:=by
  rcases cF c.size cs.length with h|h
  ·obtain⟨y,hy,_⟩:=eB c.size cs[c.size] (gG h)
   simp at hy
  ·exact h
 refine⟨h1,by simp[h1];omega,fun i row hr=>?_,fun i row j v hr hj=>?_⟩
 ·obtain⟨r,qc,od⟩:=h2 i row hr
  exact(Fp od).1
 ·obtain⟨r,qc,od⟩:=h2 i row hr
  obtain⟨z,s,hz,vp⟩:=IZ od j v hj;obtain⟨hi,rfl⟩:=Tg qc;have qe:=eJ hj;rw[(Fp od).1]at qe;simp only[kn,nT,qe,if_true]at hz;obtain⟨y,hy,hx⟩:=eB _ z hz;obtain⟨p,q⟩:=Fo vp hx;refine⟨p,y,?_,q⟩;have:=ME hi qe;rw[kn,aP this,nT,← AZ];simpa using hy
theorem I0(hR:R E g S a w){sh:Sh}{v:V}{x:Value}(hr:aZ (S.cx g w) v x){ys:List (List V)}(h:S.rows sh v=some ys):Fm w.heap g.m sh.length ys x:=by
 unfold St.rows at h;split at h
 ·cases h;exact .inl ⟨rfl,none,0,nY hr⟩
 ·rename_i tk n es
  cases hn:n==sh.length with
  |false=>simp[hn]at h
  |true =>
   simp only[hn,bC,Option.some.injEq]at h;have:=eq_of_beq hn;subst this;subst h;cases hr with
   |plain h _=>exact Te h
 ·cases h
  rcases ta hr with e | ⟨a,e⟩
  ·exact .inl ⟨rfl,none,0,e⟩
  ·exact .inl ⟨rfl,some a,0,e⟩
 ·cases h
  obtain⟨a,cap,e⟩:=Fe hr;exact .inl ⟨rfl,some a,cap,e⟩
 ·cases h
theorem Fq(hR:R E g S a w){sh:Sh}{v:V}{x:Value}(hr:aZ (S.cx g w) v x){ys:List (List V)}(h:S.qH sh v=some ys):∃id n,v=.bP id sh.length n∧ys.length=n∧(n=0∧kX x∨∃cap,n≤cap∧x=.slice (some ⟨g.κ id,0,none⟩) n cap ∧
  ∃c e,w.heap[g.κ id]?=some (.cells c e (0,0))∧n*sh.length≤c.size∧jB w.heap g.m sh.length ys (c.toList.take (n*sh.length))∧g.ow (g.κ id)=.obj id∧E.w0.heap.size≤g.κ id∧g.m (g.κ id)=0):=by
 unfold St.qH at h;split at h
 ·rename_i id off n
  split at h
  ·rename_i cs ho
   cases hle:((off==sh.length)&&Nat.blt 0 sh.length&&Nat.ble (n*sh.length) cs.length) with
   |false=>simp[hle]at h
   |true =>
    simp only[hle,bC]at h;simp only[bQ,dO]at hle;obtain⟨⟨rfl,gR⟩,hle⟩:=hle;have gR:0<sh.length:=by simpa [A0] using gR
    have hle:=iD hle;rcases (qa hr).symm with⟨h0,hz,_⟩ | ⟨cap,en,fJ,hx⟩
    ·subst h0
     refine⟨id,0,rfl,?_,.inl ⟨rfl,hz⟩⟩;simp only[chunks,kH,Option.some.injEq]at h;subst h;rfl
    rcases hR.aW id _ ho with⟨h0,vq⟩ | ⟨cj,fU,hm,c,e,hh,_,hj⟩
    ·subst h0
     have fJ:cap*sh.length=0:=fJ.trans vq;have vr:cap=0:=by rcases II.1 fJ with h|h<;>omega
     subst vr;obtain rfl:n=0:=by omega
     refine⟨id,0,rfl,?_,.inl ⟨rfl,.inr ⟨_,hx⟩⟩⟩;simp only[chunks,kH,Option.some.injEq]at h;subst h;rfl
    obtain⟨h1,h2⟩:=MH (X:=S.cx g w) (c:=c) (off:=0) (fun j v hv=>(hj j v hv).2) (by omega) h
    refine⟨id,n,rfl,h1,.inr ⟨cap,en,hx,c,e,hh,?_,by have:=h2;simp only[tM]at this;exact this,cj,fU,hm⟩⟩
    have:=h2.len;simp at this;rw[h1]at this;rcases cF c.size (n*sh.length) with h3|h3
    ·rcases mw (n*sh.length) with h4|h4
     ·have hc:cs.length≤c.size:=by
       rcases cF c.size cs.length with h|h
       ·obtain⟨_,y,hy,_⟩:=hj c.size cs[c.size] (gG h)
        simp at hy
       ·exact h
      omega
     ·omega
    ·exact h3
  ·cases h
 ·cases h
theorem MI(hR:R E g S a w){oy:Option Nat}{sh:Sh}{v:V}{x:Value}(hr:aZ (S.cx g w) v x){ys:List (List V)}(h:S.ny oy sh v=some ys):Fm w.heap g.m sh.length ys x:=by
 unfold St.ny at h;split at h
 ·exact I0 hR hr h
 ·split at h
  ·rename_i j _ i s n
   cases hc:i==j with
   |false=>simp[hc]at h
   |true =>
    simp only[hc,bC]at h;obtain⟨id,n',e,hl,hz⟩:=Fq hR hr h;rcases hz with⟨h0,hz⟩ | ⟨cap,en,hx,c,e2,hh,hle,iw,_⟩
    ·have:ys=[]:=bW.1 (by omega)
     refine .inl ⟨this,?_⟩;rcases hz with hz | ⟨ad,hz⟩
     ·exact⟨none,0,hz⟩
     ·exact⟨some ad,0,hz⟩
    ·refine .inr ⟨_,0,cap,_,by rw[hl];exact hx,by omega,fun k y hy=>?_,iw⟩
     rw[jz];unfold cellAt;rw[hh];rw[kn]at hy;split at hy
     ·simpa using hy
     ·cases hy
  ·exact I0 hR hr h
theorem R.MJ(hR:R E g S a w){f:Nat}{c:Array Value}{e:TypeId}(hw:w'.heap=w.heap.push (.cells c e (0,0)))(h1:w'.os=w.os)(h2:w'.tape=w.tape)(h3:w'.output=w.output)
  {n:Nat} {ys:List (List V)} {l:List Value} (gR:0<ys.length) (hf:S.eM f∨∃k,look f S.bf=some k∧k<ys.length)
  (hl:jB w.heap g.m n ys l) (hc:∀(j:Nat) (y:Value),l[j]?=some y→c[j]?=some y) {cap:Nat} (en:ys.length≤cap) (ec:cap*n≤c.size) :
  ∃g',R E g' { S with bf:=(f,ys.length)::S.bf } a w' ∧
   aZ (({ S with bf:=(f,ys.length)::S.bf }:St).cx g' w') (.slice (some f) n ys) (.slice (some ⟨w.heap.size,0,none⟩) ys.length cap):=by
 let g':Gh:={ g with m:=cU g.m w.heap.size (ys.length*n),τ:=cU g.τ f (some w.heap.size),ow:=cU g.ow w.heap.size (.tok f) }
 have t:Touch E g S w g' ((f,ys.length)::S.bf) S.ay.length w' w.heap.size none (some f):=Fi hR hw h1 h2 h3 (fun b hb=>fN _ _ hb) (fun b hb=>fN _ _ hb)
  (fun i _=>rfl) (fun i _=>rfl) (fun i hi=>fN _ _ (fun e=>hi (by rw[e]))) (fun i hi=>by rw[dj,aA (fun e=>hi (by rw[e]))]) (fun i _=>rfl) (bR _) (fun i a b=>absurd a (by omega)) (fun i e=>by(have e:cU g.ow w.heap.size (.tok f) w.heap.size=.ay i:=e);rw[dF]at e;cases e)
 have lb:∀i,iM (S.cx g w) ⟨w'.heap,g',S.ay.length,(f,ys.length)::S.bf⟩ i∨S.eM i:=fun i=>by
  by_cases hi:f=i
  ·subst hi
   rcases hf with hf | ⟨k,hk,bB⟩
   ·exact .inr hf
   ·refine .inl ⟨rfl,rfl,fun k' jh=>⟨k,hk,?_,fun e=>?_⟩⟩
    ·simp only[dj,if_true,Option.some.injEq]at jh;omega
    ·simp only[dj,if_true,Option.some.injEq]at jh;omega
  ·exact .inl (t.keeps hR (fun e=>by cases e) (fun e=>hi (by cases e;rfl)) (fun h=>absurd h (gO _)))
 have ku:=Fk hw;refine⟨g',R.nB t hR rfl rfl lb (fun s v hs=>.inl hs) (fun i cs ho=>.inl ⟨ho,(fun e=>by cases e),fun h=>absurd h (gO _)⟩) (fun i k b hi hb=>?_)
  (fun i o ho=>.inl ⟨ho,fun h=>absurd h (gO _)⟩),?_⟩
 ·by_cases hif:f=i
  ·subst hif
   have nC:cU g.τ f (some w.heap.size) f=some b:=hb;rw[dF]at nC;cases nC;exact .inr ⟨dF _ _ _,.inl hR.same.size,by rw[hw];simp⟩
  ·exact .inl ⟨(fun e=>hif (by cases e;rfl)),fun h=>absurd h (gO _)⟩
 ·have hm:g'.m w.heap.size=ys.length*n:=dF _ _ _
  refine .plain (Bf (m:=g'.m) (l:=l) ?_ (by show _<w'.heap.size;rw[hw];simp) en (fun j y hj=>?_) (by omega) _) (fun i n' oT he k hk=>?_)
  ·exact hl.mono t.le
  ·show cellAt w'.heap _ _=_
   rw[kr ku,jz];exact hc j y hj
  ·cases he
   simp only[St.cx,dj,if_true,Option.some.injEq]at hk;subst hk;exact⟨bR _,fun _=>.inr ⟨w.heap.size,0,cap,c,e,dF _ _ _,rfl,by show g'.m _=_;rw[hm];omega,ku,by omega,rfl,gR⟩⟩
theorem R.I1(hR:R E g S a w){f:Nat}(hf:S.eM f):∃g',R E g' { S with bf:=(f,0)::S.bf } a w ∧
  (∀n x,kX x→aZ (({ S with bf:=(f,0)::S.bf }:St).cx g' w) (.slice (some f) n []) x)∧∀v x,aZ (S.cx g w) v x→v.ch f=false→aZ (({ S with bf:=(f,0)::S.bf }:St).cx g' w) v x:=by
 let g':Gh:={ g with τ:=cU g.τ f none }
 have t:Touch E g S w g' ((f,0)::S.bf) S.ay.length w w.heap.size none (some f) :=
  {os:=rfl,tape:=rfl,output:=rfl,size:=bR _,heap:=fun _ _ _=>rfl,m:=fun _ _=>rfl,ow:=fun _ _=>rfl,κ:=fun _ _=>rfl,cp:=fun _ _=>rfl,
   τ:=fun i hi=>fN _ _ (fun e=>hi (by rw[e])),T:=fun i hi=>by rw[dj,aA (fun e=>hi (by rw[e]))],γ:=fun _ _=>rfl,eD:=bR _,
   γnew:=fun i a b=>absurd a (by omega),fresh:=.inl hR.same.size,hY:=fun _ _ h _=>absurd hR.same.size (A1 h),lv:=fun i h=>hR.CO h (bR _),jJ:=fun _ _ _ hy=>hy,pC:=fun h=>absurd h (gO _) }
 have Th:∀i,iM (S.cx g w) ⟨w.heap,g',S.ay.length,(f,0)::S.bf⟩ i∨i=f:=fun i=>by
  by_cases hi:f=i
  ·exact .inr hi.symm
  ·exact .inl (t.keeps hR (fun e=>by cases e) (fun e=>hi (by cases e;rfl)) (fun h=>absurd h (gO _)))
 refine⟨g',R.nB t hR rfl rfl (fun i=>(Th i).imp (fun z=>z) fun e=>by rw[e];exact hf) (fun s v hs=>.inl hs) (fun i cs ho=>.inl ⟨ho,(fun e=>by cases e),fun h=>absurd h (gO _)⟩) (fun i k b hi hb=>?_)
  (fun i o ho=>.inl ⟨ho,fun h=>absurd h (gO _)⟩),fun n x hz=>?_,fun v x hx hm=>hx.mono t.le fun i=>(Th i).imp (fun z=>z) fun e=>by rw[e];exact hm⟩
 ·by_cases hif:f=i
  ·subst hif
   have nC:cU g.τ f none f=some b:=hb;rw[dF]at nC;cases nC
  ·exact .inl ⟨(fun e=>hif (by cases e;rfl)),fun h=>absurd h (gO _)⟩
 ·refine .plain (by rcases hz with rfl | ⟨a,rfl⟩<;>first|exact .nil _ _|exact .empty _ _ a 0) (fun i n' oT he k hk=>?_)
  cases he;simp only[St.cx,dj,if_true,Option.some.injEq]at hk;subst hk;exact⟨bR _,fun _=>.inl ⟨rfl,hz⟩⟩
theorem R.again(hR:R E g S a w){f k:Nat}(hf:look f S.bf=some k):R E g { S with bf:=(f,k)::S.bf } a w∧∀v x,aZ (S.cx g w) v x→aZ (({ S with bf:=(f,k)::S.bf }:St).cx g w) v x:=by
 have hl:∀i,look i ((f,k)::S.bf)=look i S.bf:=fun i=>by
  rw[dj];by_cases h:f=i
  ·subst h;rw[aP rfl,hf]
  ·rw[aA h]
 have hk:∀i,iM (S.cx g w) (({ S with bf:=(f,k)::S.bf }:St).cx g w) i:=fun i=>⟨rfl,rfl,fun k' h=>⟨k',(hl i).symm.trans h,bR _,fun _=>⟨rfl,fun _ _=>⟨rfl,fun c _ h=>⟨c,h,rfl⟩⟩⟩⟩⟩;have le:Le (S.cx g w) (({ S with bf:=(f,k)::S.bf }:St).cx g w):=⟨bR _,fun _ _ _ _ h=>h,fun _ _=>bR _,bR _,fun _ _=>rfl⟩;refine⟨⟨fun s v hs=>?_,fun id cs ho=>?_,fun f' k' b MK hb=>?_,hR.ay,hR.defers,hR.jg,hR.same⟩,fun v x hx=>hx.mono le fun i=>.inl (hk i)⟩
 ·obtain⟨x,h1,h2⟩:=hR.env s v hs
  exact⟨x,h1,h2.mono le fun i=>.inl (hk i)⟩
 ·rcases hR.aW id cs ho with h0 | ⟨h1,h2,h3,c,e,h4,fJ,h5⟩
  ·exact .inl h0
  refine .inr ⟨h1,h2,h3,c,e,h4,fJ,fun j v hj=>?_⟩;obtain⟨h6,y,h7,h8⟩:=h5 j v hj;exact⟨h6,y,h7,h8.mono le fun i=>.inl (hk i)⟩
 ·exact hR.bf f' k' b (by rw[←hl f'];exact MK) hb
theorem R.adK(hR:R E g S a w){f b:Nat}{k:Nat}(hk:look f S.bf=some k)(hτ:g.τ f=some b){c:Array Value}{e:TypeId}(hb:w.heap[b]?=some (.cells c e (0,0)))
  {off n cap:Nat} (hm:g.m b=off+k*n) (iW:off=0) {es ys:List (List V)} {l0 l:List Value} (lK:es.length=k) (hy:ys≠[]) (en:(k+ys.length)≤cap) (fu:off+cap*n≤c.size)
  (h0:jB w.heap g.m n es l0) (vr:∀(j:Nat) (y:Value),l0[j]?=some y→cellAt w.heap b (off+j)=some y) (hl:jB w.heap g.m n ys l)
  {c':Array Value} (wL:c'=(c.toList.take (off+k*n)++l++c.toList.drop (off+k*n+l.length)).toArray) :
  ∃g',R E g' { S with bf:=(f,k+ys.length)::S.bf } a (w.setRow b c') ∧
   aZ (({ S with bf:=(f,k+ys.length)::S.bf }:St).cx g' (w.setRow b c')) (.slice (some f) n (es++ys)) (.slice (some ⟨b,off,none⟩) (k+ys.length) cap):=by
 obtain⟨cj,fU,Ti⟩:=hR.bf f k b hk hτ;have kK:=hl.len;have h1:(k+ys.length)*n≤cap*n:=rI n en;rw[px]at h1;have ec:c'.size=c.size:=by rw[wL];simp;omega
 have ku:(w.setRow b c').heap[b]?=some (.cells c' e (0,0)):=setRow_heap w b c c' e _ hb;have adL:∀i,i≠b→(w.setRow b c').heap[i]?=w.heap[i]?:=fun i hi=>by
  simp only[World.setRow,CD];rw[aA (by omega)]
 have hold:∀j,j<off+k*n→c'[j]?=c[j]?:=fun j hj=>by
  rw[wL];simp only[CG,u4];rw[sW (by simp;omega)]
  simp[hj]
 have adM:∀(j:Nat) (y:Value),l[j]?=some y→c'[off+k*n+j]?=some y:=fun j y hj=>by
  have:=eJ hj;rw[wL];simp only[CG,u4];rw[u5 (by simp;omega),sW (by simp;omega),← hj]
  congr 1;simp;omega
 let g':Gh:={ g with m:=cU g.m b (off+(k+ys.length)*n) }
 have xz:g'.m b=off+(k+ys.length)*n:=dF _ _ _;have t:Touch E g S w g' ((f,k+ys.length)::S.bf) S.ay.length (w.setRow b c') b none (some f) :=
  {os:=rfl,tape:=rfl,output:=rfl,size:=by simp,heap:=fun i hi _=>adL i hi,m:=fun i hi=>fN _ _ hi,ow:=fun _ _=>rfl,κ:=fun _ _=>rfl,cp:=fun _ _=>rfl,
   τ:=fun i hi=>rfl,T:=fun i hi=>by rw[dj,aA (fun e=>hi (by rw[e]))],γ:=fun _ _=>rfl,eD:=bR _,
   γnew:=fun i a b=>absurd a (by omega),fresh:=fU.imp (fun z=>z) .inr,hY:=fun p q _ e=>by(have e:g.ow b=.cell p q:=e);rw[cj]at e;exact absurd e (fun e=>nomatch e),
   lv:=fun i e=>by(have e:g.ow b=.ay i:=e);rw[cj]at e;exact absurd e (fun e=>nomatch e)
   jJ:=fun o y ho hy=>by
    rw[kr hb]at hy;rw[kr ku,hold o (by omega)]
    exact hy
   pC:=fun _=>by rw[xz,hm,px];omega }
 have aqS:0<ys.length:=AU.2 hy;have lb:∀i,iM (S.cx g w) ⟨(w.setRow b c').heap,g',S.ay.length,(f,k+ys.length)::S.bf⟩ i:=fun i=>by
  by_cases hi:f=i
  ·subst hi
   refine⟨rfl,rfl,fun k' jh=>⟨k,hk,?_,fun e=>?_⟩⟩
   ·simp only[dj,if_true,Option.some.injEq]at jh;omega
   ·simp only[dj,if_true,Option.some.injEq]at jh;omega
  ·exact t.keeps hR (fun e=>by cases e) (fun e=>hi (by cases e;rfl)) (fun _ e=>hi (by rw[cj]at e;cases e;rfl))
 refine⟨g',R.nB t hR rfl rfl (fun i=>.inl (lb i)) (fun s v hs=>.inl hs) (fun i cs ho=>.inl ⟨ho,(fun e=>by cases e),fun _ e=>by rw[cj]at e;cases e⟩) (fun i k' b' hi nC=>?_)
  (fun i o ho=>.inl ⟨ho,fun _=>⟨fun e=>(by rw[cj]at e;cases e),fun _ e=>(by rw[cj]at e;cases e)⟩⟩),?_⟩
 ·by_cases hif:f=i
  ·subst hif
   have Tj:g.τ f=some b':=nC;rw[hτ]at Tj;cases Tj;exact .inr ⟨cj,fU,by simpa using Ti⟩
  ·exact .inl ⟨(fun e=>hif (by cases e;rfl)),fun _ e=>hif (by rw[cj]at e;cases e;rfl)⟩
 ·have xD:=(h0.mono t.le).append (hl.mono t.le)
  have hlen:(es++ys).length=k+ys.length:=by simp[lK]
  rw[←hlen];refine .plain (Bf (m:=g'.m) xD (by show b<(w.setRow b c').heap.size;simpa using Ti) (by omega) (fun j y hj=>?_) (by rw[hlen];omega) _) (fun i n' oT he k' jh=>?_)
  ·show cellAt (w.setRow b c').heap b _=_
   rw[kr ku];have h0l:=h0.len;rw[lK]at h0l;rw[pj]at hj;split at hj
   ·rename_i bB
    have h5:=vr j y hj;rw[kr hb]at h5;rw[hold _ (by omega)]
    exact h5
   ·rename_i bB
    have h6:=adM _ y hj;rw[show off+j=off+k*n+(j-l0.length) from by omega]
    exact h6
  ·cases he
   simp only[St.cx,dj,if_true,Option.some.injEq]at jh;have pE:k'=k+ys.length:=by rw[←jh,hlen]
   subst pE;exact⟨by omega,fun _=>.inr ⟨b,off,cap,c',e,hτ,by rw[hlen],xz,ku,by omega,iW,by omega⟩⟩
end
end Go.Vm

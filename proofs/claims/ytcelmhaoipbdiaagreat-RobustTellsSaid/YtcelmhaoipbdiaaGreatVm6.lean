/- The value machine, 6: rows of cells, slices that grow, stores, blocks that calls share. -/
import Derived.Test.YtcelmhaoipbdiaaGreatVm5
namespace Go.Vm
set_option linter.all false
section
variable {P:Program} {E:Entry} {g g':Gh} {S S':St} {a:Act} {w w':World} {T':List (Nat×Nat)} {N' B:Nat}
structure kD(h:Array Obj)(m:Nat→Nat)(n:Nat)(ys:List (List V))(l:List Value):Prop where
 len:l.length=ys.length*n
 row:∀(i:Nat) (row:List V),ys[i]?=some row→row.length=n
 cell:∀(i:Nat) (row:List V) (j:Nat) (v:V),ys[i]?=some row→row[j]?=some v→v.plain=true∧∃y,l[i*n+j]?=some y∧fF h m v y
theorem PJ{i k n j:Nat}(hi:i<k)(hj:j<n):i*n+j<k*n:=by
 have h:=rM n hi;rw[oI]at h;omega
theorem kD.mono{X X':Cx}(le:Le X X'){n:Nat}{ys:List (List V)}{l:List Value}(h:kD X.h X.g.m n ys l):kD X'.h X'.g.m n ys l :=
 ⟨h.len,h.row,fun i row j v hi hj=>by
  obtain⟨a,y,b,c⟩:=h.cell i row j v hi hj;exact⟨a,y,b,c.mono le⟩⟩
theorem kD.nil{h:Array Obj}{m:Nat→Nat}{n:Nat}:kD h m n [] []:=⟨by simp,by simp,by simp⟩
theorem kD.append{h:Array Obj}{m:Nat→Nat}{n:Nat}{xs ys:List (List V)}{k l:List Value}(hx:kD h m n xs k)(hy:kD h m n ys l):kD h m n (xs++ys) (k++l) where
 len:=by simp[hx.len,hy.len,qC]
 row:=fun i row hr=>by
  rw[qB]at hr;split at hr
  ·exact hx.row i row hr
  ·exact hy.row _ row hr
 cell:=fun i row j v hr hj=>by
  rw[qB]at hr;split at hr
  ·rename_i hi
   obtain⟨p,y,q,r⟩:=hx.cell i row j v hr hj;have:=fa q;exact⟨p,y,by rw[ux this];exact q,r⟩
  ·rename_i hi
   obtain⟨p,y,q,r⟩:=hy.cell _ row j v hr hj;refine⟨p,y,?_,r⟩;have e:i*n+j=xs.length*n+((i-xs.length)*n+j):=by
    rw[←CT,← qC];congr 2;omega
   rw[wL (by rw[hx.len];omega),hx.len,e,Px]
   exact q
theorem kD.get{h:Array Obj}{m:Nat→Nat}{n:Nat}{ys:List (List V)}{l:List Value}(hr:kD h m n ys l){k:Nat}{y:Value}(hy:l[k]?=some y) :
  ∃v:V,fF h m v y:=by
 have hk:=fa hy;rw[hr.len]at hk;have hn:0<n:=by
  rcases nG n with e|e
  ·subst e;simp at hk
  ·exact e
 have h1:k / n<ys.length:=WS (by rw[KX];exact hk)
 have h2:=KW k hn;have h3:=hr.row (k / n) ys[k / n] (g8 h1);obtain⟨_,z,hz,hv⟩:=hr.cell (k / n) ys[k / n] (k % n) (ys[k / n][k % n]'(by omega)) (g8 h1) (g8 (by omega))
 rw[KX,Nat.div_add_mod,hy]at hz;cases hz;exact⟨_,hv⟩
theorem kD.C5{h:Array Obj}{m:Nat→Nat}{n:Nat}{ys:List (List V)}{l:List Value}(hr:kD h m n ys l):∀y∈l,y.oneCell'=true:=fun y hy=>by
 obtain⟨k,hk⟩:=sH.1 hy;obtain⟨v,hv⟩:=hr.get hk;exact hv.C5
def HI(h:Array Obj)(m:Nat→Nat)(n:Nat)(ys:List (List V))(x:Value):Prop :=
 (ys=[]∧∃base cap,x=.slice base 0 cap)∨∃b off cap l,x=.slice (some ⟨b,off,none⟩) ys.length cap∧ys.length≤cap∧(∀(j:Nat) (y:Value),l[j]?=some y→cellAt h b (off+j)=some y)∧kD h m n ys l
theorem Lf{h:Array Obj}{m:Nat→Nat}{n:Nat}{tok:Option Nat}{ys:List (List V)}{x:Value}(hr:fF h m (.slice tok n ys) x):(ys=[]∧x=.slice none 0 0)∨(ys=[]∧∃a cap,x=.slice (some a) 0 cap) ∨
  ∃b off cap l,x=.slice (some ⟨b,off,none⟩) ys.length cap∧ys.length≤cap∧(∀(j:Nat) (y:Value),l[j]?=some y→cellAt h b (off+j)=some y)∧kD h m n ys l:=by
 cases hr with
 |nil=>exact .inl ⟨rfl,rfl⟩
 |empty _ _ a cap=>exact .inr (.inl ⟨rfl,a,cap,rfl⟩)
 |slice _ _ _ b off cap zs hb eK jc hc hv hp hm =>
  refine .inr <| .inr ⟨b,off,cap,(List.range (ys.length*n)).map (fun k=>(cellAt h b (off+k)).getD undef),rfl,eK,fun j y hj=>?_,by simp,jc,fun i row j v hi hj=>⟨hp i row j v hi hj,zs i j,?_,hv i row j v hi hj⟩⟩
  ·have bI:=fa hj
   simp at bI;simp[bI]at hj;have hn:0<n:=by
    rcases nG n with e|e
    ·subst e;simp at bI
    ·exact e
   have h1:j / n<ys.length:=WS (by rw[KX];exact bI)
   have h2:=KW j hn;have h3:=jc (j / n) ys[j / n] (g8 h1);have h4:=hc (j / n) ys[j / n] (j % n) (ys[j / n][j % n]'(by omega)) (g8 h1) (g8 (by omega))
   rw[CT,KX,Nat.div_add_mod]at h4;rw[h4]at hj ⊢;simpa using hj
  ·have h3:=jc i row hi
   have h5:=fa hj;have h6:=PJ (fa hi) (h3 ▸ h5);have h4:=hc i row j v hi hj;rw[CT]at h4;simp[h6,h4]
theorem W9{h:Array Obj}{m:Nat→Nat}{n:Nat}{tok:Option Nat}{ys:List (List V)}{x:Value}(hr:fF h m (.slice tok n ys) x):HI h m n ys x:=by
 rcases Lf hr with⟨h1,h2⟩ | ⟨h1,a,cap,h2⟩ | h
 ·exact .inl ⟨h1,none,0,h2⟩
 ·exact .inl ⟨h1,some a,cap,h2⟩
 ·exact .inr h
theorem C9{h:Array Obj}{m:Nat→Nat}{n:Nat}{ys:List (List V)}{l:List Value}(hr:kD h m n ys l){b off cap:Nat}(hb:b<h.size)(eK:ys.length≤cap)
  (hc:∀(j:Nat) (y:Value),l[j]?=some y→cellAt h b (off+j)=some y) (hm:off+ys.length*n≤m b) (tok:Option Nat) :
  fF h m (.slice tok n ys) (.slice (some ⟨b,off,none⟩) ys.length cap):=by
 refine .slice tok n ys b off cap (fun i j=>(l[i*n+j]?).getD undef) hb eK hr.row (fun i row j v hi hj=>?_) (fun i row j v hi hj=>?_) (fun i row j v hi hj=>(hr.cell i row j v hi hj).1) hm
 ·obtain⟨_,y,hy,_⟩:=hr.cell i row j v hi hj
  rw[CT,hc _ _ hy,hy];rfl
 ·obtain⟨_,y,hy,hv⟩:=hr.cell i row j v hi hj
  rw[hy];exact hv
theorem HJ{X:Cx}{sh:Option Nat}{v u:V}{y:Value}(h:el sh v=some u)(hr:bf X v y):u.plain=true∧fF X.h X.g.m u y:=by
 unfold el at h;split at h
 ·cases h;cases hr with|plain h _=>exact⟨rfl,h⟩
 ·cases h;cases hr with|plain h _=>exact⟨rfl,h⟩
 ·cases h;cases hr with|plain h _=>exact⟨rfl,h⟩
 ·split at h
  ·cases h;rw[pB hr];exact⟨rfl,.bU⟩
  ·cases h;rw[pB hr];exact⟨rfl,.nil _ _⟩
  ·cases h
 ·cases h
  cases hr with
  |plain h _ =>
   refine⟨rfl,?_⟩;cases h with
   |nil=>exact .nil _ _
   |empty _ _ a cap=>exact .empty _ _ a cap
   |slice _ _ _ b off cap zs hb eK jc hc hv hp hm=>exact .slice _ _ _ b off cap zs hb eK jc hc hv hp hm
 ·cases h
  rcases uH hr with rfl | ⟨a,rfl⟩
  ·exact⟨rfl,.nil _ _⟩
  ·exact⟨rfl,.empty _ _ a 0⟩
 ·cases h
  obtain⟨a,cap,rfl⟩:=HB hr;exact⟨rfl,.empty _ _ a cap⟩
 ·cases h
theorem HK:∀{sh:Sh} {vs us:List V},nH sh vs=some us→us.length=sh.length∧vs.length=sh.length
 |[],[],us,h=>by simp[nH]at h;subst h;simp
 |[],_::_,_,h=>by simp[nH]at h
 |_::_,[],_,h=>by simp[nH]at h
 |s::sh,v::vs,us,h=>by
  simp only[nH]at h;split at h
  ·rename_i u l8 h1 h2
   cases h;obtain⟨a,b⟩:=HK h2;simp[a,b]
  ·cases h
theorem Lg:∀{sh:Sh} {vs us:List V},nH sh vs=some us→∀(j:Nat) (u:V),us[j]?=some u→∃v s,vs[j]?=some v∧el s v=some u
 |[],[],us,h,j,u,hu=>by simp[nH]at h;subst h;simp at hu
 |[],_::_,_,h,_,_,_=>by simp[nH]at h
 |_::_,[],_,h,_,_,_=>by simp[nH]at h
 |s::sh,v::vs,us,h,j,u,hu=>by
  simp only[nH]at h;split at h
  ·rename_i u' l8 h1 h2
   cases h;cases j with
   |zero=>simp at hu;subst hu;exact⟨v,s,by simp,h1⟩
   |succ j=>obtain⟨z,t,p,q⟩:=Lg h2 j u (by simpa using hu);exact⟨z,t,by simpa using p,q⟩
  ·cases h
theorem PK{sh:Sh}:∀{rs us:List (List V)},lb sh rs=some us→us.length=rs.length∧∀(i:Nat) (u:List V),us[i]?=some u→∃r,rs[i]?=some r∧nH sh r=some u
 |[],us,h=>by simp[lb]at h;subst h;simp
 |r::rs,us,h=>by
  simp only[lb]at h;split at h
  ·rename_i u' l8 h1 h2
   cases h;obtain⟨a,b⟩:=PK h2;refine⟨by simp[a],fun i u hu=>?_⟩
   cases i with
   |zero=>simp at hu;subst hu;exact⟨r,by simp,h1⟩
   |succ i=>obtain⟨z,p,q⟩:=b i u (by simpa using hu);exact⟨z,by simpa using p,q⟩
  ·cases h
theorem Xa{sz:Nat}{cs:List V}:∀{n off i:Nat} {r:List V},(chunks sz cs off n)[i]?=some r→i<n∧r=(cs.drop (off+i*sz)).take sz
 |0,off,i,r,h=>by simp[chunks]at h
 |n+1,off,i,r,h=>by
  simp only[chunks]at h;cases i with
  |zero=>simp at h;subst h;simp
  |succ i =>
   obtain⟨a,b⟩:=Xa (n:=n) (by simpa using h)
   refine⟨by omega,?_⟩
   rw[b,oI];congr 2;omega
theorem PL{sz:Nat}{cs:List V}:∀{n off:Nat},(chunks sz cs off n).length=n
 |0,off=>rfl
 |n+1,off=>by simp[chunks,PL]
theorem PM{X:Cx}{sh:Sh}{cs:List V}{c:Array Value}(eX:∀(j:Nat) (v:V),cs[j]?=some v→∃y,c[j]?=some y∧bf X v y){off n:Nat}(hle:off+n*sh.length≤cs.length)
  {ys:List (List V)} (h:lb sh (chunks sh.length cs off n)=some ys):ys.length=n∧kD X.h X.g.m sh.length ys ((c.toList.drop off).take (n*sh.length)):=by
 obtain⟨h1,h2⟩:=PK h;rw[PL]at h1;have hc:cs.length≤c.size:=by
  rcases cM c.size cs.length with h|h
  ·obtain⟨y,hy,_⟩:=eX c.size cs[c.size] (g8 h)
   simp at hy
  ·exact h
 refine⟨h1,by simp[h1];omega,fun i row hr=>?_,fun i row j v hr hj=>?_⟩
 ·obtain⟨r,qj,lh⟩:=h2 i row hr
  exact(HK lh).1
 ·obtain⟨r,qj,lh⟩:=h2 i row hr
  obtain⟨z,s,hz,wZ⟩:=Lg lh j v hj;obtain⟨hi,rfl⟩:=Xa qj;have rW:=fa hj;rw[(HK lh).1]at rW;simp only[lN,oF,rW,if_true]at hz;obtain⟨y,hy,hx⟩:=eX _ z hz;obtain⟨p,q⟩:=HJ wZ hx;refine⟨p,y,?_,q⟩;have:=PJ hi rW;rw[lN,aK this,oF,← CT];simpa using hy
theorem Lh(hR:R E g S a w){sh:Sh}{v:V}{x:Value}(hr:bf (S.cx g w) v x){ys:List (List V)}(h:S.rows sh v=some ys):HI w.heap g.m sh.length ys x:=by
 unfold St.rows at h;split at h
 ·cases h;exact .inl ⟨rfl,none,0,pB hr⟩
 ·rename_i tk n es
  cases hn:n==sh.length with
  |false=>simp[hn]at h
  |true =>
   simp only[hn,bM,Option.some.injEq]at h;have:=eq_of_beq hn;subst this;subst h;cases hr with
   |plain h _=>exact W9 h
 ·cases h
  rcases uH hr with e | ⟨a,e⟩
  ·exact .inl ⟨rfl,none,0,e⟩
  ·exact .inl ⟨rfl,some a,0,e⟩
 ·cases h
  obtain⟨a,cap,e⟩:=HB hr;exact .inl ⟨rfl,some a,cap,e⟩
 ·cases h
theorem HL(hR:R E g S a w){sh:Sh}{v:V}{x:Value}(hr:bf (S.cx g w) v x){ys:List (List V)}(h:S.sM sh v=some ys):∃id n,v=.bR id sh.length n∧ys.length=n∧(n=0∧mr x∨∃cap,n≤cap∧x=.slice (some ⟨g.κ id,0,none⟩) n cap ∧
  ∃c e,w.heap[g.κ id]?=some (.cells c e (0,0))∧n*sh.length≤c.size∧kD w.heap g.m sh.length ys (c.toList.take (n*sh.length))∧g.ow (g.κ id)=.obj id∧E.w0.heap.size≤g.κ id∧g.m (g.κ id)=0):=by
 unfold St.sM at h;split at h
 ·rename_i id off n
  split at h
  ·rename_i cs ho
   cases hle:((off==sh.length)&&Nat.blt 0 sh.length&&Nat.ble (n*sh.length) cs.length) with
   |false=>simp[hle]at h
   |true =>
    simp only[hle,bM]at h;simp only[b8,eg]at hle;obtain⟨⟨rfl,gX⟩,hle⟩:=hle;have gX:0<sh.length:=by simpa [CU] using gX
    have hle:=jk hle;rcases (rT hr).symm with⟨h0,hz,_⟩ | ⟨cap,eK,fY,hx⟩
    ·subst h0
     refine⟨id,0,rfl,?_,.inl ⟨rfl,hz⟩⟩;simp only[chunks,lb,Option.some.injEq]at h;subst h;rfl
    rcases hR.aZ id _ ho with⟨h0,w5⟩ | ⟨cB,gN,hm,c,e,hh,_,hj⟩
    ·subst h0
     have fY:cap*sh.length=0:=fY.trans w5;have yq:cap=0:=by rcases KY.1 fY with h|h<;>omega
     subst yq;obtain rfl:n=0:=by omega
     refine⟨id,0,rfl,?_,.inl ⟨rfl,.inr ⟨_,hx⟩⟩⟩;simp only[chunks,lb,Option.some.injEq]at h;subst h;rfl
    obtain⟨h1,h2⟩:=PM (X:=S.cx g w) (c:=c) (off:=0) (fun j v hv=>(hj j v hv).2) (by omega) h
    refine⟨id,n,rfl,h1,.inr ⟨cap,eK,hx,c,e,hh,?_,by have:=h2;simp only[vn]at this;exact this,cB,gN,hm⟩⟩
    have:=h2.len;simp at this;rw[h1]at this;rcases cM c.size (n*sh.length) with h3|h3
    ·rcases nG (n*sh.length) with h4|h4
     ·have hc:cs.length≤c.size:=by
       rcases cM c.size cs.length with h|h
       ·obtain⟨_,y,hy,_⟩:=hj c.size cs[c.size] (g8 h)
        simp at hy
       ·exact h
      omega
     ·omega
    ·exact h3
  ·cases h
 ·cases h
theorem PN(hR:R E g S a w){oy:Option Nat}{sh:Sh}{v:V}{x:Value}(hr:bf (S.cx g w) v x){ys:List (List V)}(h:S.oK oy sh v=some ys):HI w.heap g.m sh.length ys x:=by
 unfold St.oK at h;split at h
 ·exact Lh hR hr h
 ·split at h
  ·rename_i j _ i s n
   cases hc:i==j with
   |false=>simp[hc]at h
   |true =>
    simp only[hc,bM]at h;obtain⟨id,n',e,hl,hz⟩:=HL hR hr h;rcases hz with⟨h0,hz⟩ | ⟨cap,eK,hx,c,e2,hh,hle,jc,_⟩
    ·have:ys=[]:=a8.1 (by omega)
     refine .inl ⟨this,?_⟩;rcases hz with hz | ⟨ad,hz⟩
     ·exact⟨none,0,hz⟩
     ·exact⟨some ad,0,hz⟩
    ·refine .inr ⟨_,0,cap,_,by rw[hl];exact hx,by omega,fun k y hy=>?_,jc⟩
     rw[kz];unfold cellAt;rw[hh];rw[lN]at hy;split at hy
     ·simpa using hy
     ·cases hy
  ·exact Lh hR hr h
theorem R.PO(hR:R E g S a w){f:Nat}{c:Array Value}{e:TypeId}(hw:w'.heap=w.heap.push (.cells c e (0,0)))(h1:w'.os=w.os)(h2:w'.tape=w.tape)(h3:w'.output=w.output)
  {n:Nat} {ys:List (List V)} {l:List Value} (gX:0<ys.length) (hf:S.fb f∨∃k,look f S.bl=some k∧k<ys.length)
  (hl:kD w.heap g.m n ys l) (hc:∀(j:Nat) (y:Value),l[j]?=some y→c[j]?=some y) {cap:Nat} (eK:ys.length≤cap) (eH:cap*n≤c.size) :
  ∃g',R E g' { S with bl:=(f,ys.length)::S.bl } a w' ∧
   bf (({ S with bl:=(f,ys.length)::S.bl }:St).cx g' w') (.slice (some f) n ys) (.slice (some ⟨w.heap.size,0,none⟩) ys.length cap):=by
 let g':Gh:={ g with m:=df g.m w.heap.size (ys.length*n),τ:=df g.τ f (some w.heap.size),ow:=df g.ow w.heap.size (.tok f) }
 have t:Touch E g S w g' ((f,ys.length)::S.bl) S.aD.length w' w.heap.size none (some f):=HF hR hw h1 h2 h3 (fun b hb=>gC _ _ hb) (fun b hb=>gC _ _ hb)
  (fun i _=>rfl) (fun i _=>rfl) (fun i hi=>gC _ _ (fun e=>hi (by rw[e]))) (fun i hi=>by rw[dL,av (fun e=>hi (by rw[e]))]) (fun i _=>rfl) (bY _) (fun i a b=>absurd a (by omega)) (fun i e=>by(have e:df g.ow w.heap.size (.tok f) w.heap.size=.aD i:=e);rw[dS]at e;cases e)
 have mz:∀i,jB (S.cx g w) ⟨w'.heap,g',S.aD.length,(f,ys.length)::S.bl⟩ i∨S.fb i:=fun i=>by
  by_cases hi:f=i
  ·subst hi
   rcases hf with hf | ⟨k,hk,bI⟩
   ·exact .inr hf
   ·refine .inl ⟨rfl,rfl,fun k' ld=>⟨k,hk,?_,fun e=>?_⟩⟩
    ·simp only[dL,if_true,Option.some.injEq]at ld;omega
    ·simp only[dL,if_true,Option.some.injEq]at ld;omega
  ·exact .inl (t.keeps hR (fun e=>by cases e) (fun e=>hi (by cases e;rfl)) (fun h=>absurd h (iC _)))
 have lR:=HH hw;refine⟨g',R.oQ t hR rfl rfl mz (fun s v hs=>.inl hs) (fun i cs ho=>.inl ⟨ho,(fun e=>by cases e),fun h=>absurd h (iC _)⟩) (fun i k b hi hb=>?_)
  (fun i o ho=>.inl ⟨ho,fun h=>absurd h (iC _)⟩),?_⟩
 ·by_cases hif:f=i
  ·subst hif
   have oR:df g.τ f (some w.heap.size) f=some b:=hb;rw[dS]at oR;cases oR;exact .inr ⟨dS _ _ _,.inl hR.same.size,by rw[hw];simp⟩
  ·exact .inl ⟨(fun e=>hif (by cases e;rfl)),fun h=>absurd h (iC _)⟩
 ·have hm:g'.m w.heap.size=ys.length*n:=dS _ _ _
  refine .plain (C9 (m:=g'.m) (l:=l) ?_ (by show _<w'.heap.size;rw[hw];simp) eK (fun j y hj=>?_) (by omega) _) (fun i n' ql he k hk=>?_)
  ·exact hl.mono t.le
  ·show cellAt w'.heap _ _=_
   rw[lP lR,kz];exact hc j y hj
  ·cases he
   simp only[St.cx,dL,if_true,Option.some.injEq]at hk;subst hk;exact⟨bY _,fun _=>.inr ⟨w.heap.size,0,cap,c,e,dS _ _ _,rfl,by show g'.m _=_;rw[hm];omega,lR,by omega,rfl,gX⟩⟩
theorem R.Lj(hR:R E g S a w){f:Nat}(hf:S.fb f):∃g',R E g' { S with bl:=(f,0)::S.bl } a w ∧
  (∀n x,mr x→bf (({ S with bl:=(f,0)::S.bl }:St).cx g' w) (.slice (some f) n []) x)∧∀v x,bf (S.cx g w) v x→v.cA f=false→bf (({ S with bl:=(f,0)::S.bl }:St).cx g' w) v x:=by
 let g':Gh:={ g with τ:=df g.τ f none }
 have t:Touch E g S w g' ((f,0)::S.bl) S.aD.length w w.heap.size none (some f) :=
  {os:=rfl,tape:=rfl,output:=rfl,size:=bY _,heap:=fun _ _ _=>rfl,m:=fun _ _=>rfl,ow:=fun _ _=>rfl,κ:=fun _ _=>rfl,cp:=fun _ _=>rfl,
   τ:=fun i hi=>gC _ _ (fun e=>hi (by rw[e])),T:=fun i hi=>by rw[dL,av (fun e=>hi (by rw[e]))],γ:=fun _ _=>rfl,eW:=bY _,
   γnew:=fun i a b=>absurd a (by omega),fresh:=.inl hR.same.size,iW:=fun _ _ h _=>absurd hR.same.size (CV h),lv:=fun i h=>hR.EU h (bY _),kN:=fun _ _ _ hy=>hy,qH:=fun h=>absurd h (iC _) }
 have Xb:∀i,jB (S.cx g w) ⟨w.heap,g',S.aD.length,(f,0)::S.bl⟩ i∨i=f:=fun i=>by
  by_cases hi:f=i
  ·exact .inr hi.symm
  ·exact .inl (t.keeps hR (fun e=>by cases e) (fun e=>hi (by cases e;rfl)) (fun h=>absurd h (iC _)))
 refine⟨g',R.oQ t hR rfl rfl (fun i=>(Xb i).imp (fun z=>z) fun e=>by rw[e];exact hf) (fun s v hs=>.inl hs) (fun i cs ho=>.inl ⟨ho,(fun e=>by cases e),fun h=>absurd h (iC _)⟩) (fun i k b hi hb=>?_)
  (fun i o ho=>.inl ⟨ho,fun h=>absurd h (iC _)⟩),fun n x hz=>?_,fun v x hx hm=>hx.mono t.le fun i=>(Xb i).imp (fun z=>z) fun e=>by rw[e];exact hm⟩
 ·by_cases hif:f=i
  ·subst hif
   have oR:df g.τ f none f=some b:=hb;rw[dS]at oR;cases oR
  ·exact .inl ⟨(fun e=>hif (by cases e;rfl)),fun h=>absurd h (iC _)⟩
 ·refine .plain (by rcases hz with rfl | ⟨a,rfl⟩<;>first|exact .nil _ _|exact .empty _ _ a 0) (fun i n' ql he k hk=>?_)
  cases he;simp only[St.cx,dL,if_true,Option.some.injEq]at hk;subst hk;exact⟨bY _,fun _=>.inl ⟨rfl,hz⟩⟩
theorem R.again(hR:R E g S a w){f k:Nat}(hf:look f S.bl=some k):R E g { S with bl:=(f,k)::S.bl } a w∧∀v x,bf (S.cx g w) v x→bf (({ S with bl:=(f,k)::S.bl }:St).cx g w) v x:=by
 have hl:∀i,look i ((f,k)::S.bl)=look i S.bl:=fun i=>by
  rw[dL];by_cases h:f=i
  ·subst h;rw[aK rfl,hf]
  ·rw[av h]
 have hk:∀i,jB (S.cx g w) (({ S with bl:=(f,k)::S.bl }:St).cx g w) i:=fun i=>⟨rfl,rfl,fun k' h=>⟨k',(hl i).symm.trans h,bY _,fun _=>⟨rfl,fun _ _=>⟨rfl,fun c _ h=>⟨c,h,rfl⟩⟩⟩⟩⟩;have le:Le (S.cx g w) (({ S with bl:=(f,k)::S.bl }:St).cx g w):=⟨bY _,fun _ _ _ _ h=>h,fun _ _=>bY _,bY _,fun _ _=>rfl⟩;refine⟨⟨fun s v hs=>?_,fun id cs ho=>?_,fun f' k' b PQ hb=>?_,hR.aD,hR.defers,hR.kb,hR.same⟩,fun v x hx=>hx.mono le fun i=>.inl (hk i)⟩
 ·obtain⟨x,h1,h2⟩:=hR.env s v hs
  exact⟨x,h1,h2.mono le fun i=>.inl (hk i)⟩
 ·rcases hR.aZ id cs ho with h0 | ⟨h1,h2,h3,c,e,h4,fY,h5⟩
  ·exact .inl h0
  refine .inr ⟨h1,h2,h3,c,e,h4,fY,fun j v hj=>?_⟩;obtain⟨h6,y,h7,h8⟩:=h5 j v hj;exact⟨h6,y,h7,h8.mono le fun i=>.inl (hk i)⟩
 ·exact hR.bl f' k' b (by rw[←hl f'];exact PQ) hb
theorem R.aiU(hR:R E g S a w){f b:Nat}{k:Nat}(hk:look f S.bl=some k)(hτ:g.τ f=some b){c:Array Value}{e:TypeId}(hb:w.heap[b]?=some (.cells c e (0,0)))
  {off n cap:Nat} (hm:g.m b=off+k*n) (jS:off=0) {es ys:List (List V)} {l0 l:List Value} (mU:es.length=k) (hy:ys≠[]) (eK:(k+ys.length)≤cap) (fZ:off+cap*n≤c.size)
  (h0:kD w.heap g.m n es l0) (yq:∀(j:Nat) (y:Value),l0[j]?=some y→cellAt w.heap b (off+j)=some y) (hl:kD w.heap g.m n ys l)
  {c':Array Value} (yo:c'=(c.toList.take (off+k*n)++l++c.toList.drop (off+k*n+l.length)).toArray) :
  ∃g',R E g' { S with bl:=(f,k+ys.length)::S.bl } a (w.setRow b c') ∧
   bf (({ S with bl:=(f,k+ys.length)::S.bl }:St).cx g' (w.setRow b c')) (.slice (some f) n (es++ys)) (.slice (some ⟨b,off,none⟩) (k+ys.length) cap):=by
 obtain⟨cB,gN,Xc⟩:=hR.bl f k b hk hτ;have mb:=hl.len;have h1:(k+ys.length)*n≤cap*n:=rM n eK;rw[qC]at h1;have eH:c'.size=c.size:=by rw[yo];simp;omega
 have lR:(w.setRow b c').heap[b]?=some (.cells c' e (0,0)):=setRow_heap w b c c' e _ hb;have aiV:∀i,i≠b→(w.setRow b c').heap[i]?=w.heap[i]?:=fun i hi=>by
  simp only[World.setRow,EE];rw[av (by omega)]
 have hold:∀j,j<off+k*n→c'[j]?=c[j]?:=fun j hj=>by
  rw[yo];simp only[EJ,wK];rw[ux (by simp;omega)]
  simp[hj]
 have aiW:∀(j:Nat) (y:Value),l[j]?=some y→c'[off+k*n+j]?=some y:=fun j y hj=>by
  have:=fa hj;rw[yo];simp only[EJ,wK];rw[wL (by simp;omega),ux (by simp;omega),← hj]
  congr 1;simp;omega
 let g':Gh:={ g with m:=df g.m b (off+(k+ys.length)*n) }
 have zO:g'.m b=off+(k+ys.length)*n:=dS _ _ _;have t:Touch E g S w g' ((f,k+ys.length)::S.bl) S.aD.length (w.setRow b c') b none (some f) :=
  {os:=rfl,tape:=rfl,output:=rfl,size:=by simp,heap:=fun i hi _=>aiV i hi,m:=fun i hi=>gC _ _ hi,ow:=fun _ _=>rfl,κ:=fun _ _=>rfl,cp:=fun _ _=>rfl,
   τ:=fun i hi=>rfl,T:=fun i hi=>by rw[dL,av (fun e=>hi (by rw[e]))],γ:=fun _ _=>rfl,eW:=bY _,
   γnew:=fun i a b=>absurd a (by omega),fresh:=gN.imp (fun z=>z) .inr,iW:=fun p q _ e=>by(have e:g.ow b=.cell p q:=e);rw[cB]at e;exact absurd e (fun e=>nomatch e),
   lv:=fun i e=>by(have e:g.ow b=.aD i:=e);rw[cB]at e;exact absurd e (fun e=>nomatch e)
   kN:=fun o y ho hy=>by
    rw[lP hb]at hy;rw[lP lR,hold o (by omega)]
    exact hy
   qH:=fun _=>by rw[zO,hm,qC];omega }
 have axY:0<ys.length:=CP.2 hy;have mz:∀i,jB (S.cx g w) ⟨(w.setRow b c').heap,g',S.aD.length,(f,k+ys.length)::S.bl⟩ i:=fun i=>by
  by_cases hi:f=i
  ·subst hi
   refine⟨rfl,rfl,fun k' ld=>⟨k,hk,?_,fun e=>?_⟩⟩
   ·simp only[dL,if_true,Option.some.injEq]at ld;omega
   ·simp only[dL,if_true,Option.some.injEq]at ld;omega
  ·exact t.keeps hR (fun e=>by cases e) (fun e=>hi (by cases e;rfl)) (fun _ e=>hi (by rw[cB]at e;cases e;rfl))
 refine⟨g',R.oQ t hR rfl rfl (fun i=>.inl (mz i)) (fun s v hs=>.inl hs) (fun i cs ho=>.inl ⟨ho,(fun e=>by cases e),fun _ e=>by rw[cB]at e;cases e⟩) (fun i k' b' hi oR=>?_)
  (fun i o ho=>.inl ⟨ho,fun _=>⟨fun e=>(by rw[cB]at e;cases e),fun _ e=>(by rw[cB]at e;cases e)⟩⟩),?_⟩
 ·by_cases hif:f=i
  ·subst hif
   have Xd:g.τ f=some b':=oR;rw[hτ]at Xd;cases Xd;exact .inr ⟨cB,gN,by simpa using Xc⟩
  ·exact .inl ⟨(fun e=>hif (by cases e;rfl)),fun _ e=>hif (by rw[cB]at e;cases e;rfl)⟩
 ·have zS:=(h0.mono t.le).append (hl.mono t.le)
  have hlen:(es++ys).length=k+ys.length:=by simp[mU]
  rw[←hlen];refine .plain (C9 (m:=g'.m) zS (by show b<(w.setRow b c').heap.size;simpa using Xc) (by omega) (fun j y hj=>?_) (by rw[hlen];omega) _) (fun i n' ql he k' ld=>?_)
  ·show cellAt (w.setRow b c').heap b _=_
   rw[lP lR];have h0l:=h0.len;rw[mU]at h0l;rw[qB]at hj;split at hj
   ·rename_i bI
    have h5:=yq j y hj;rw[lP hb]at h5;rw[hold _ (by omega)]
    exact h5
   ·rename_i bI
    have h6:=aiW _ y hj;rw[show off+j=off+k*n+(j-l0.length) from by omega]
    exact h6
  ·cases he
   simp only[St.cx,dL,if_true,Option.some.injEq]at ld;have qJ:k'=k+ys.length:=by rw[←ld,hlen]
   subst qJ;exact⟨by omega,fun _=>.inr ⟨b,off,cap,c',e,hτ,by rw[hlen],zO,lR,by omega,jS,by omega⟩⟩
end
end Go.Vm

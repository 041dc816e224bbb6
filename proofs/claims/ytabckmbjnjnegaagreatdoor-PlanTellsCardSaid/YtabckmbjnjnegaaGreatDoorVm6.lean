/- - -/
import Derived.Test.YtabckmbjnjnegaaGreatDoorVm5
namespace Go.Vm
set_option linter.all false
section
variable {P:Program} {E:Entry} {g g':Gh} {S S':St} {a:Act} {w w':World} {T':List (Nat×Nat)} {N' B:Nat}
structure kY(h:Array Obj)(m:Nat->Nat)(n:Nat)(ys:List (List V))(l:List Value):Prop where
 len:l.length=ys.length*n
 row:∀(i:Nat) (row:List V),ys[i]?=some row->row.length=n
 cell:∀(i:Nat) (row:List V) (j:Nat) (v:V),ys[i]?=some row->row[j]?=some v->v.plain=true/\∃y,l[i*n+j]?=some y/\fK h m v y
variable{k n:Nat}
def Se{i j:Nat}(hi:i<k)(hj:j<n):i*n+j<k*n:=by
 have h:=uk n hi;rw[rY]at h;omega
variable{X:Cx}{l:List Value}
def kY.mono{X':Cx}(le:Le X X'){ys:List (List V)}(h:kY X.h X.g.m n ys l):kY X'.h X'.g.m n ys l :=
 ⟨h.len,h.row,λi row j v hi hj=>by
  obtain⟨a,y,b,c⟩:=h.cell i row j v hi hj;exact⟨a,y,b,c.mono le⟩⟩
variable{h:Array Obj}{m:Nat->Nat}
def kY.nil:kY h m n [] []:=⟨by simp,by simp,by simp⟩
def kY.append{xs ys:List (List V)}{k:List Value}(hx:kY h m n xs k)(hy:kY h m n ys l):kY h m n (xs++ys) (k++l) where
 len:=by simp[hx.len,hy.len,Aa]
 row:=λi row hr=>by
  rw[rP]at hr;split at hr
  .exact hx.row i row hr
  .exact hy.row _ row hr
 cell:=λi row j v hr hj=>by
  rw[rP]at hr;split at hr
  next hi=>
   obtain⟨p,y,q,r⟩:=hx.cell i row j v hr hj;have:=fg q;exact⟨p,y,by rw[nR this];exact q,r⟩
  next hi=>
   obtain⟨p,y,q,r⟩:=hy.cell _ row j v hr hj;refine⟨p,y,?_,r⟩;have e:i*n+j=xs.length*n+((i-xs.length)*n+j):=by
    rw[<-Nat.add_assoc,<- Nat.add_mul];congr 2;omega
   rw[wy (by rw[hx.len];omega),hx.len,e,Eo]
   exact q
variable{y:Value}
def kY.get{ys:List (List V)}(hr:kY h m n ys l)(hy:l[k]?=some y) :
  ∃v:V,fK h m v y:=by
 have hk:=fg hy;rw[hr.len]at hk;have hn:0<n:=by
  rcases nV n with e|e
  .subst e;simp at hk
  .exact e
 have h1:k / n<ys.length:=ZD (by rw[Ni];exact hk)
 have h2:=Nh k hn;have h3:=hr.row (k / n) ys[k / n] (eV h1);obtain⟨_,z,hz,hv⟩:=hr.cell (k / n) ys[k / n] (k % n) (ys[k / n][k % n]'(by omega)) (eV h1) (eV (by omega))
 rw[Ni,Nat.div_add_mod,hy]at hz;cases hz;exact⟨_,hv⟩
def kY.EA{ys:List (List V)}(hr:kY h m n ys l):∀y∈l,y.oneCell'=true:=λy hy=>by
 obtain⟨k,hk⟩:=lN.1 hy;obtain⟨v,hv⟩:=hr.get hk;exact hv.EA
def JH(h:Array Obj)(m:Nat->Nat)(n:Nat)(ys:List (List V))(x:Value):Prop :=
 (ys=[]/\∃base cap,x=.slice base 0 cap)\/∃b off cap l,x=.slice (some ⟨b,off,none⟩) ys.length cap/\ys.length<=cap/\(∀(j:Nat) (y:Value),l[j]?=some y->cellAt h b (off+j)=some y)/\kY h m n ys l
variable{tok:Option Nat}{x:Value}
def Nx{ys:List (List V)}(hr:fK h m (.slice tok n ys) x):(ys=[]/\x=.slice none 0 0)\/(ys=[]/\∃a cap,x=.slice (some a) 0 cap) \/
  ∃b off cap l,x=.slice (some ⟨b,off,none⟩) ys.length cap/\ys.length<=cap/\(∀(j:Nat) (y:Value),l[j]?=some y->cellAt h b (off+j)=some y)/\kY h m n ys l:=by
 cases hr with
 |nil=>exact .inl ⟨rfl,rfl⟩
 |empty _ _ a cap=>exact .inr (.inl ⟨rfl,a,cap,rfl⟩)
 |slice _ _ _ b off cap zs hb eM jG hc hv hp hm =>
  refine .inr <| .inr ⟨b,off,cap,(List.range (ys.length*n)).map (λk=>(cellAt h b (off+k)).getD undef),rfl,eM,λj y hj=>?_,by simp,jG,λi row j v hi hj=>⟨hp i row j v hi hj,zs i j,?_,hv i row j v hi hj⟩⟩
  .have bJ:=fg hj
   simp at bJ;simp[bJ]at hj;have hn:0<n:=by
    rcases nV n with e|e
    .subst e;simp at bJ
    .exact e
   have h1:j / n<ys.length:=ZD (by rw[Ni];exact bJ)
   have h2:=Nh j hn;have h3:=jG (j / n) ys[j / n] (eV h1);have h4:=hc (j / n) ys[j / n] (j % n) (ys[j / n][j % n]'(by omega)) (eV h1) (eV (by omega))
   rw[Nd,Ni,Nat.div_add_mod]at h4;rw[h4]at hj ⊢;simpa using hj
  .have h3:=jG i row hi
   have h5:=fg hj;have h6:=Se (fg hi) (h3 ▸ h5);have h4:=hc i row j v hi hj;rw[Nd]at h4;simp[h6,h4]
def ZU{ys:List (List V)}(hr:fK h m (.slice tok n ys) x):JH h m n ys x:=by
 rcases Nx hr with⟨h1,h2⟩ | ⟨h1,a,cap,h2⟩ | h
 .exact .inl ⟨h1,none,0,h2⟩
 .exact .inl ⟨h1,some a,cap,h2⟩
 .exact .inr h
variable{b off cap:Nat}
def EE{ys:List (List V)}(hr:kY h m n ys l)(hb:b<h.size)(eM:ys.length<=cap)
  (hc:∀(j:Nat) (y:Value),l[j]?=some y->cellAt h b (off+j)=some y) (hm:off+ys.length*n<=m b) (tok:Option Nat) :
  fK h m (.slice tok n ys) (.slice (some ⟨b,off,none⟩) ys.length cap):=by
 refine .slice tok n ys b off cap (λi j=>(l[i*n+j]?).getD undef) hb eM hr.row (λi row j v hi hj=>?_) (λi row j v hi hj=>?_) (λi row j v hi hj=>(hr.cell i row j v hi hj).1) hm
 .obtain⟨_,y,hy,_⟩:=hr.cell i row j v hi hj
  rw[Nd,hc _ _ hy,hy];rfl
 .obtain⟨_,y,hy,hv⟩:=hr.cell i row j v hi hj
  rw[hy];exact hv
variable{v:V}
def JI{sh:Option Nat}{u:V}(h:el sh v=some u)(hr:bh X v y):u.plain=true/\fK X.h X.g.m u y:=by
 unfold el at h;split at h
 .cases h;cases hr with|plain h _=>exact⟨rfl,h⟩
 .cases h;cases hr with|plain h _=>exact⟨rfl,h⟩
 .cases h;cases hr with|plain h _=>exact⟨rfl,h⟩
 .split at h
  .cases h;rw[qK hr];exact⟨rfl,.cj⟩
  .cases h;rw[qK hr];exact⟨rfl,.nil _ _⟩
  .cases h
 .cases h
  cases hr with
  |plain h _ =>
   refine⟨rfl,?_⟩;cases h with
   |nil=>exact .nil _ _
   |empty _ _ a cap=>exact .empty _ _ a cap
   |slice _ _ _ b off cap zs hb eM jG hc hv hp hm=>exact .slice _ _ _ b off cap zs hb eM jG hc hv hp hm
 .cases h
  rcases wF hr with rfl | ⟨a,rfl⟩
  .exact⟨rfl,.nil _ _⟩
  .exact⟨rfl,.empty _ _ a 0⟩
 .cases h
  obtain⟨a,cap,rfl⟩:=JA hr;exact⟨rfl,.empty _ _ a cap⟩
 .cases h
def JJ:∀{sh:Sh} {vs us:List V},oV sh vs=some us->us.length=sh.length/\vs.length=sh.length
 |[],[],us,h=>by simp[oV]at h;subst h;simp
 |[],_::_,_,h=>by simp[oV]at h
 |_::_,[],_,h=>by simp[oV]at h
 |s::sh,v::vs,us,h=>by
  simp only[oV]at h;split at h
  next u mN h1 h2=>
   cases h;obtain⟨a,b⟩:=JJ h2;simp[a,b]
  .cases h
def Ny:∀{sh:Sh} {vs us:List V},oV sh vs=some us->∀(j:Nat) (u:V),us[j]?=some u->∃v s,vs[j]?=some v/\el s v=some u
 |[],[],us,h,j,u,hu=>by simp[oV]at h;subst h;simp at hu
 |[],_::_,_,h,_,_,_=>by simp[oV]at h
 |_::_,[],_,h,_,_,_=>by simp[oV]at h
 |s::sh,v::vs,us,h,j,u,hu=>by
  simp only[oV]at h;split at h
  next u' mN h1 h2=>
   cases h;cases j with
   |zero=>simp at hu;subst hu;exact⟨v,s,by simp,h1⟩
   |succ j=>obtain⟨z,t,p,q⟩:=Ny h2 j u (by simpa using hu);exact⟨z,t,by simpa using p,q⟩
  .cases h
def Sf{sh:Sh}:∀{rs us:List (List V)},ju sh rs=some us->us.length=rs.length/\∀(i:Nat) (u:List V),us[i]?=some u->∃r,rs[i]?=some r/\oV sh r=some u
 |[],us,h=>by simp[ju]at h;subst h;simp
 |r::rs,us,h=>by
  simp only[ju]at h;split at h
  next u' mN h1 h2=>
   cases h;obtain⟨a,b⟩:=Sf h2;refine⟨by simp[a],λi u hu=>?_⟩
   cases i with
   |zero=>simp at hu;subst hu;exact⟨r,by simp,h1⟩
   |succ i=>obtain⟨z,p,q⟩:=b i u (by simpa using hu);exact⟨z,by simpa using p,q⟩
  .cases h
def ZV{sz:Nat}{cs:List V}:∀{n off i:Nat} {r:List V},(chunks sz cs off n)[i]?=some r->i<n/\r=(cs.drop (off+i*sz)).take sz
 |0,off,i,r,h=>by simp[chunks]at h
 |n+1,off,i,r,h=>by
  simp only[chunks]at h;cases i with
  |zero=>simp at h;subst h;simp
  |succ i =>
   obtain⟨a,b⟩:=ZV (n:=n) (by simpa using h)
   refine⟨by omega,?_⟩
   rw[b,rY];congr 2;omega
def Sg{sz:Nat}{cs:List V}:∀{n off:Nat},(chunks sz cs off n).length=n
 |0,off=>rfl
 |n+1,off=>by simp[chunks,Sg]
variable{sh:Sh}{c:Array Value}
def Nz{cs:List V}(eR:∀(j:Nat) (v:V),cs[j]?=some v->∃y,c[j]?=some y/\bh X v y)(hle:off+n*sh.length<=cs.length)
  {ys:List (List V)} (h:ju sh (chunks sh.length cs off n)=some ys):ys.length=n/\kY X.h X.g.m sh.length ys ((c.toList.drop off).take (n*sh.length)):=by
 obtain⟨h1,h2⟩:=Sf h;rw[Sg]at h1;have hc:cs.length<=c.size:=by
  rcases cS c.size cs.length with h|h
  .obtain⟨y,hy,_⟩:=eR c.size cs[c.size] (eV h)
   simp at hy
  .exact h
 refine⟨h1,by simp[h1];omega,λi row hr=>?_,λi row j v hr hj=>?_⟩
 .obtain⟨r,sd,pJ⟩:=h2 i row hr
  exact(JJ pJ).1
 .obtain⟨r,sd,pJ⟩:=h2 i row hr
  obtain⟨z,s,hz,yR⟩:=Ny pJ j v hj;obtain⟨hi,rfl⟩:=ZV sd;have tL:=fg hj;rw[(JJ pJ).1]at tL;simp only[jP,mJ,tL,if_true]at hz;obtain⟨y,hy,hx⟩:=eR _ z hz;obtain⟨p,q⟩:=JI yR hx;refine⟨p,y,?_,q⟩;have:=Se hi tL;rw[jP,aJ this,mJ,<- Nat.add_assoc];simpa using hy
def ZW(hR:R E g S a w)(hr:bh (S.cx g w) v x){ys:List (List V)}(h:S.rows sh v=some ys):JH w.heap g.m sh.length ys x:=by
 unfold St.rows at h;split at h
 .cases h;exact .inl ⟨rfl,none,0,qK hr⟩
 next tk n es=>
  cases hn:n==sh.length with
  |false=>simp[hn]at h
  |true =>
   simp only[hn,bW,Option.some.injEq]at h;have:=eq_of_beq hn;subst this;subst h;cases hr with
   |plain h _=>exact ZU h
 .cases h
  rcases wF hr with e | ⟨a,e⟩
  .exact .inl ⟨rfl,none,0,e⟩
  .exact .inl ⟨rfl,some a,0,e⟩
 .cases h
  obtain⟨a,cap,e⟩:=JA hr;exact .inl ⟨rfl,some a,cap,e⟩
 .cases h
def JK(hR:R E g S a w)(hr:bh (S.cx g w) v x){ys:List (List V)}(h:S.uo sh v=some ys):∃id n,v=.bY id sh.length n/\ys.length=n/\(n=0/\nn x\/∃cap,n<=cap/\x=.slice (some ⟨g.κ id,0,none⟩) n cap /\
  ∃c e,w.heap[g.κ id]?=some (.cells c e (0,0))/\n*sh.length<=c.size/\kY w.heap g.m sh.length ys (c.toList.take (n*sh.length))/\g.ow (g.κ id)=.obj id/\E.w0.heap.size<=g.κ id/\g.m (g.κ id)=0):=by
 unfold St.uo at h;split at h
 next id off n=>
  split at h
  next cs ho=>
   cases hle:((off==sh.length)&&Nat.blt 0 sh.length&&Nat.ble (n*sh.length) cs.length) with
   |false=>simp[hle]at h
   |true =>
    simp only[hle,bW]at h;simp only[bZ,ec]at hle;obtain⟨⟨rfl,gR⟩,hle⟩:=hle;have gR:0<sh.length:=by simpa [CN] using gR
    have hle:=js hle;rcases (tH hr).symm with⟨h0,hz,_⟩ | ⟨cap,eM,gM,hx⟩
    .subst h0
     refine⟨id,0,rfl,?_,.inl ⟨rfl,hz⟩⟩;simp only[chunks,ju,Option.some.injEq]at h;subst h;rfl
    rcases hR.aY id _ ho with⟨h0,yS⟩ | ⟨cJ,hH,hm,c,e,hh,_,hj⟩
    .subst h0
     have gM:cap*sh.length=0:=gM.trans yS;have Ah:cap=0:=by rcases Nj.1 gM with h|h<;>omega
     subst Ah;obtain rfl:n=0:=by omega
     refine⟨id,0,rfl,?_,.inl ⟨rfl,.inr ⟨_,hx⟩⟩⟩;simp only[chunks,ju,Option.some.injEq]at h;subst h;rfl
    obtain⟨h1,h2⟩:=Nz (X:=S.cx g w) (c:=c) (off:=0) (λj v hv=>(hj j v hv).2) (by omega) h
    refine⟨id,n,rfl,h1,.inr ⟨cap,eM,hx,c,e,hh,?_,by have:=h2;simp only[tA]at this;exact this,cJ,hH,hm⟩⟩
    have:=h2.len;simp at this;rw[h1]at this;rcases cS c.size (n*sh.length) with h3|h3
    .rcases nV (n*sh.length) with h4|h4
     .have hc:cs.length<=c.size:=by
       rcases cS c.size cs.length with h|h
       .obtain⟨_,y,hy,_⟩:=hj c.size cs[c.size] (eV h)
        simp at hy
       .exact h
      omega
     .omega
    .exact h3
  .cases h
 .cases h
def JL(hR:R E g S a w){oy:Option Nat}(hr:bh (S.cx g w) v x){ys:List (List V)}(h:S.jR oy sh v=some ys):JH w.heap g.m sh.length ys x:=by
 unfold St.jR at h;split at h
 .exact ZW hR hr h
 .split at h
  next j _ i s n=>
   cases hc:i==j with
   |false=>simp[hc]at h
   |true =>
    simp only[hc,bW]at h;obtain⟨id,n',e,hl,hz⟩:=JK hR hr h;rcases hz with⟨h0,hz⟩ | ⟨cap,eM,hx,c,e2,hh,hle,jG,_⟩
    .have:ys=[]:=pz.1 (by omega)
     refine .inl ⟨this,?_⟩;rcases hz with hz | ⟨ad,hz⟩
     .exact⟨none,0,hz⟩
     .exact⟨some ad,0,hz⟩
    .refine .inr ⟨_,0,cap,_,by rw[hl];exact hx,by omega,λk y hy=>?_,jG⟩
     rw[kX];unfold cellAt;rw[hh];rw[jP]at hy;split at hy
     .simpa using hy
     .cases hy
  next j _ i s off n=>
   cases hc:i==j with
   |false=>simp[hc]at h
   |true =>
    simp only[hc,bW]at h;unfold St.Ns at h;split at h
    next cs eR=>
     cases hle:((s==sh.length)&&Nat.blt 0 sh.length&&Nat.ble (off*sh.length+n*sh.length) cs.length) with
     |false=>simp[hle]at h
     |true =>
      simp only[hle,bW]at h;simp only[bZ,ec]at hle;obtain⟨⟨rfl,gR⟩,hle⟩:=hle;have gR:0<sh.length:=by simpa [CN] using gR
      have hle:=js hle;obtain⟨cap,eM,hx⟩:∃cap,n<=cap/\x=.slice (some ⟨g.κ i,off*sh.length,none⟩) n cap:=by
       cases hr with
       |plain h _=>cases h
       |fQ _ _ _ _ cap h=>exact⟨cap,h,rfl⟩
      rcases nV n with h0|h0
      .subst h0
       simp only[chunks,ju,Option.some.injEq]at h;exact .inl ⟨h.symm,_,cap,hx⟩
      have hpn:=Nk h0 gR;have cy:cs≠[]:=by intro e;subst e;simp at hle;omega
      obtain⟨cJ,hH,hm,c,e,hh,_,hj⟩:=(hR.aY i cs eR).resolve_left (λh=>cy h.1);obtain⟨h1,h2⟩:=Nz (X:=S.cx g w) (c:=c) (off:=off*sh.length) (λj v hv=>(hj j v hv).2) hle h;refine .inr ⟨_,off*sh.length,cap,_,by rw[h1];exact hx,by omega,λk y hy=>?_,h2⟩
      unfold cellAt;rw[hh];rw[jP]at hy;split at hy
      .rw[mJ]at hy
       simpa using hy
      .cases hy
    .cases h
  .exact ZW hR hr h
variable{f:Nat}{e:TypeId}
def R.Sj(hR:R E g S a w)(hw:w'.heap=w.heap.push (.cells c e (0,0)))(h1:w'.os=w.os)(h2:w'.tape=w.tape)(h3:w'.output=w.output) {ys:List (List V)} (gR:0<ys.length) (hf:S.fa f\/∃k,look f S.bo=some k/\k<ys.length)
  (hl:kY w.heap g.m n ys l) (hc:∀(j:Nat) (y:Value),l[j]?=some y->c[j]?=some y) (eM:ys.length<=cap) (eF:cap*n<=c.size) :
  ∃g',R E g' { S with bo:=(f,ys.length)::S.bo } a w' /\
   bh (({ S with bo:=(f,ys.length)::S.bo }:St).cx g' w') (.slice (some f) n ys) (.slice (some ⟨w.heap.size,0,none⟩) ys.length cap):=by
 let g':Gh:={ g with m:=du g.m w.heap.size (ys.length*n),τ:=du g.τ f (some w.heap.size),ow:=du g.ow w.heap.size (.tok f) }
 have t:Touch E g S w g' ((f,ys.length)::S.bo) S.aC.length w' w.heap.size none (some f):=JE hR hw h1 h2 h3 (λb hb=>g9 _ _ hb) (λb hb=>g9 _ _ hb)
  (λi _=>rfl) (λi _=>rfl) (λi hi=>g9 _ _ (λe=>hi (by rw[e]))) (λi hi=>by rw[dO,ax (λe=>hi (by rw[e]))]) (λi _=>rfl) (b8 _) (λi a b=>absurd a (by omega)) (λi e=>by(have e:du g.ow w.heap.size (.tok f) w.heap.size=.aC i:=e);rw[ea]at e;cases e)
 have nx:∀i,ke (S.cx g w) ⟨w'.heap,g',S.aC.length,(f,ys.length)::S.bo⟩ i\/S.fa i:=λi=>by
  by_cases hi:f=i
  .subst hi
   rcases hf with hf | ⟨k,hk,bJ⟩
   .exact .inr hf
   .refine .inl ⟨rfl,rfl,λk' lR=>⟨k,hk,?_,λe=>?_⟩⟩
    .simp only[dO,if_true,Option.some.injEq]at lR;omega
    .simp only[dO,if_true,Option.some.injEq]at lR;omega
  .exact .inl (t.keeps hR (λe=>by cases e) (λe=>hi (by cases e;rfl)) (λh=>absurd h (iX _)))
 have mq:=JG hw;refine⟨g',R.qk t hR rfl rfl nx (λs v hs=>.inl hs) (λi cs ho=>.inl ⟨ho,(λe=>by cases e),λh=>absurd h (iX _)⟩) (λi k b hi hb=>?_)
  (λi o ho=>.inl ⟨ho,λh=>absurd h (iX _)⟩),?_⟩
 .by_cases hif:f=i
  .subst hif
   have kZ:du g.τ f (some w.heap.size) f=some b:=hb;rw[ea]at kZ;cases kZ;exact .inr ⟨ea _ _ _,.inl hR.same.size,by rw[hw];simp⟩
  .exact .inl ⟨(λe=>hif (by cases e;rfl)),λh=>absurd h (iX _)⟩
 .have hm:g'.m w.heap.size=ys.length*n:=ea _ _ _
  refine .plain (EE (m:=g'.m) (l:=l) ?_ (by show _<w'.heap.size;rw[hw];simp) eM (λj y hj=>?_) (by omega) _) (λi n' sf he k hk=>?_)
  .exact hl.mono t.le
  .show cellAt w'.heap _ _=_
   rw[mn mq,kX];exact hc j y hj
  .cases he
   simp only[St.cx,dO,if_true,Option.some.injEq]at hk;subst hk;exact⟨b8 _,λ_=>.inr ⟨w.heap.size,0,cap,c,e,ea _ _ _,rfl,by show g'.m _=_;rw[hm];omega,mq,by omega,rfl,gR⟩⟩
def R.NA(hR:R E g S a w)(hf:S.fa f):∃g',R E g' { S with bo:=(f,0)::S.bo } a w /\
  (∀n x,nn x->bh (({ S with bo:=(f,0)::S.bo }:St).cx g' w) (.slice (some f) n []) x)/\∀v x,bh (S.cx g w) v x->v.cI f=false->bh (({ S with bo:=(f,0)::S.bo }:St).cx g' w) v x:=by
 let g':Gh:={ g with τ:=du g.τ f none }
 have t:Touch E g S w g' ((f,0)::S.bo) S.aC.length w w.heap.size none (some f) :=
  {os:=rfl,tape:=rfl,output:=rfl,size:=b8 _,heap:=λ_ _ _=>rfl,m:=λ_ _=>rfl,ow:=λ_ _=>rfl,κ:=λ_ _=>rfl,cp:=λ_ _=>rfl,
   τ:=λi hi=>g9 _ _ (λe=>hi (by rw[e])),T:=λi hi=>by rw[dO,ax (λe=>hi (by rw[e]))],γ:=λ_ _=>rfl,eZ:=b8 _,
   γnew:=λi a b=>absurd a (by omega),fresh:=.inl hR.same.size,jw:=λ_ _ h _=>absurd hR.same.size (Ep h),lv:=λi h=>hR.GK h (b8 _),mM:=λ_ _ _ hy=>hy,sO:=λh=>absurd h (iX _) }
 have ZX:∀i,ke (S.cx g w) ⟨w.heap,g',S.aC.length,(f,0)::S.bo⟩ i\/i=f:=λi=>by
  by_cases hi:f=i
  .exact .inr hi.symm
  .exact .inl (t.keeps hR (λe=>by cases e) (λe=>hi (by cases e;rfl)) (λh=>absurd h (iX _)))
 refine⟨g',R.qk t hR rfl rfl (λi=>(ZX i).imp (λz=>z) λe=>by rw[e];exact hf) (λs v hs=>.inl hs) (λi cs ho=>.inl ⟨ho,(λe=>by cases e),λh=>absurd h (iX _)⟩) (λi k b hi hb=>?_)
  (λi o ho=>.inl ⟨ho,λh=>absurd h (iX _)⟩),λn x hz=>?_,λv x hx hm=>hx.mono t.le λi=>(ZX i).imp (λz=>z) λe=>by rw[e];exact hm⟩
 .by_cases hif:f=i
  .subst hif
   have kZ:du g.τ f none f=some b:=hb;rw[ea]at kZ;cases kZ
  .exact .inl ⟨(λe=>hif (by cases e;rfl)),λh=>absurd h (iX _)⟩
 .refine .plain (by rcases hz with rfl | ⟨a,rfl⟩<;>first|exact .nil _ _|exact .empty _ _ a 0) (λi n' sf he k hk=>?_)
  cases he;simp only[St.cx,dO,if_true,Option.some.injEq]at hk;subst hk;exact⟨b8 _,λ_=>.inl ⟨rfl,hz⟩⟩
def R.again(hR:R E g S a w)(hf:look f S.bo=some k):R E g { S with bo:=(f,k)::S.bo } a w/\∀v x,bh (S.cx g w) v x->bh (({ S with bo:=(f,k)::S.bo }:St).cx g w) v x:=by
 have hl:∀i,look i ((f,k)::S.bo)=look i S.bo:=λi=>by
  rw[dO];by_cases h:f=i
  .subst h;rw[aJ rfl,hf]
  .rw[ax h]
 have hk:∀i,ke (S.cx g w) (({ S with bo:=(f,k)::S.bo }:St).cx g w) i:=λi=>⟨rfl,rfl,λk' h=>⟨k',(hl i).symm.trans h,b8 _,λ_=>⟨rfl,λ_ _=>⟨rfl,λc _ h=>⟨c,h,rfl⟩⟩⟩⟩⟩;have le:Le (S.cx g w) (({ S with bo:=(f,k)::S.bo }:St).cx g w):=⟨b8 _,λ_ _ _ _ h=>h,λ_ _=>b8 _,b8 _,λ_ _=>rfl⟩;refine⟨⟨λs v hs=>?_,λid cs ho=>?_,λf' k' b Sk hb=>?_,hR.aC,hR.defers,hR.kr,hR.same⟩,λv x hx=>hx.mono le λi=>.inl (hk i)⟩
 .obtain⟨x,h1,h2⟩:=hR.env s v hs
  exact⟨x,h1,h2.mono le λi=>.inl (hk i)⟩
 .rcases hR.aY id cs ho with h0 | ⟨h1,h2,h3,c,e,h4,gM,h5⟩
  .exact .inl h0
  refine .inr ⟨h1,h2,h3,c,e,h4,gM,λj v hj=>?_⟩;obtain⟨h6,y,h7,h8⟩:=h5 j v hj;exact⟨h6,y,h7,h8.mono le λi=>.inl (hk i)⟩
 .exact hR.bo f' k' b (by rw[<-hl f'];exact Sk) hb
def R.amE(hR:R E g S a w)(hk:look f S.bo=some k)(hτ:g.τ f=some b)(hb:w.heap[b]?=some (.cells c e (0,0))) (hm:g.m b=off+k*n) (ku:off=0) {es ys:List (List V)}{l0:List Value} (nY:es.length=k) (hy:ys≠[]) (eM:(k+ys.length)<=cap) (gy:off+cap*n<=c.size)
  (h0:kY w.heap g.m n es l0) (Ah:∀(j:Nat) (y:Value),l0[j]?=some y->cellAt w.heap b (off+j)=some y) (hl:kY w.heap g.m n ys l)
  {c':Array Value} (tK:c'=(c.toList.take (off+k*n)++l++c.toList.drop (off+k*n+l.length)).toArray) :
  ∃g',R E g' { S with bo:=(f,k+ys.length)::S.bo } a (w.setRow b c') /\
   bh (({ S with bo:=(f,k+ys.length)::S.bo }:St).cx g' (w.setRow b c')) (.slice (some f) n (es++ys)) (.slice (some ⟨b,off,none⟩) (k+ys.length) cap):=by
 obtain⟨cJ,hH,ZY⟩:=hR.bo f k b hk hτ;have la:=hl.len;have h1:(k+ys.length)*n<=cap*n:=uk n eM;rw[Aa]at h1;have eF:c'.size=c.size:=by rw[tK];simp;omega
 have mq:(w.setRow b c').heap[b]?=some (.cells c' e (0,0)):=setRow_heap w b c c' e _ hb;have amF:∀i,i≠b->(w.setRow b c').heap[i]?=w.heap[i]?:=λi hi=>by
  simp only[World.setRow,Gj];rw[ax']
 have hold:∀j,j<off+k*n->c'[j]?=c[j]?:=λj hj=>by
  rw[tK];simp only[Gn,ov];rw[nR (by simp;omega)]
  simp[hj]
 have JM:∀(j:Nat) (y:Value),l[j]?=some y->c'[off+k*n+j]?=some y:=λj y hj=>by
  have:=fg hj;rw[tK];simp only[Gn,ov];rw[wy (by simp;omega),nR (by simp;omega),<- hj]
  congr 1;simp;omega
 let g':Gh:={ g with m:=du g.m b (off+(k+ys.length)*n) }
 have uu:g'.m b=off+(k+ys.length)*n:=ea _ _ _;have t:Touch E g S w g' ((f,k+ys.length)::S.bo) S.aC.length (w.setRow b c') b none (some f) :=
  {os:=rfl,tape:=rfl,output:=rfl,size:=by simp,heap:=λi hi _=>amF i hi,m:=λi hi=>g9 _ _ hi,ow:=λ_ _=>rfl,κ:=λ_ _=>rfl,cp:=λ_ _=>rfl,
   τ:=λi hi=>rfl,T:=λi hi=>by rw[dO,ax (λe=>hi (by rw[e]))],γ:=λ_ _=>rfl,eZ:=b8 _,
   γnew:=λi a b=>absurd a (by omega),fresh:=hH.imp (λz=>z) .inr,jw:=λp q _ e=>by(have e:g.ow b=.cell p q:=e);rw[cJ]at e;exact absurd e (λe=>nomatch e),
   lv:=λi e=>by(have e:g.ow b=.aC i:=e);rw[cJ]at e;exact absurd e (λe=>nomatch e)
   mM:=λo y ho hy=>by
    rw[mn hb]at hy;rw[mn mq,hold o (by omega)]
    exact hy
   sO:=λ_=>by rw[uu,hm,Aa];omega }
 have aDn:0<ys.length:=nS.2 hy;have nx:∀i,ke (S.cx g w) ⟨(w.setRow b c').heap,g',S.aC.length,(f,k+ys.length)::S.bo⟩ i:=λi=>by
  by_cases hi:f=i
  .subst hi
   refine⟨rfl,rfl,λk' lR=>⟨k,hk,?_,λe=>?_⟩⟩
   .simp only[dO,if_true,Option.some.injEq]at lR;omega
   .simp only[dO,if_true,Option.some.injEq]at lR;omega
  .exact t.keeps hR (λe=>by cases e) (λe=>hi (by cases e;rfl)) (λ_ e=>hi (by rw[cJ]at e;cases e;rfl))
 refine⟨g',R.qk t hR rfl rfl (λi=>.inl (nx i)) (λs v hs=>.inl hs) (λi cs ho=>.inl ⟨ho,(λe=>by cases e),λ_ e=>by rw[cJ]at e;cases e⟩) (λi k' b' hi kZ=>?_)
  (λi o ho=>.inl ⟨ho,λ_=>⟨λe=>(by rw[cJ]at e;cases e),λ_ e=>(by rw[cJ]at e;cases e)⟩⟩),?_⟩
 .by_cases hif:f=i
  .subst hif
   have ZZ:g.τ f=some b':=kZ;rw[hτ]at ZZ;cases ZZ;exact .inr ⟨cJ,hH,by simpa using ZY⟩
  .exact .inl ⟨(λe=>hif (by cases e;rfl)),λ_ e=>hif (by rw[cJ]at e;cases e;rfl)⟩
 .have Be:=(h0.mono t.le).append (hl.mono t.le)
  have hlen:(es++ys).length=k+ys.length:=by simp[nY]
  rw[<-hlen];refine .plain (EE (m:=g'.m) Be (by show b<(w.setRow b c').heap.size;simpa using ZY) (by omega) (λj y hj=>?_) (by rw[hlen];omega) _) (λi n' sf he k' lR=>?_)
  .show cellAt (w.setRow b c').heap b _=_
   rw[mn mq];have h0l:=h0.len;rw[nY]at h0l;rw[rP]at hj;split at hj
   next bJ=>
    have h5:=Ah j y hj;rw[mn hb]at h5;rw[hold _ (by omega)]
    exact h5
   next bJ=>
    have h6:=JM _ y hj;rw[show off+j=off+k*n+(j-l0.length) from by omega]
    exact h6
  .cases he
   simp only[St.cx,dO,if_true,Option.some.injEq]at lR;have sR:k'=k+ys.length:=by rw[<-lR,hlen]
   subst sR;exact⟨by omega,λ_=>.inr ⟨b,off,cap,c',e,hτ,by rw[hlen],uu,mq,by omega,ku,by omega⟩⟩
end

/- The value machine, 6: rows of cells, slices that grow, stores, blocks that calls share. -/
import Derived.Test.YtmpikpodpgnjhaaGreatVm5
namespace Go.Vm
set_option linter.all false
section
variable {P:Program} {E:Entry} {g g':Gh} {S S':St} {a:Act} {w w':World} {T':List (Nat×Nat)} {N' B:Nat}
structure jm(h:Array Obj)(m:Nat→Nat)(n:Nat)(ys:List (List V))(l:List Value):Prop where
 len:l.length=ys.length*n
 row:∀(i:Nat) (row:List V),ys[i]?=some row→row.length=n
 cell:∀(i:Nat) (row:List V) (j:Nat) (v:V),ys[i]?=some row→row[j]?=some v→v.plain=true∧∃y,l[i*n+j]?=some y∧fp h m v y
theorem Io{i k n j:Nat}(hi:i<k)(hj:j<n):i*n+j<k*n:=by
 have h:=Nat.mul_le_mul_right n hi;rw[Nat.succ_mul]at h;omega
theorem jm.mono{X X':Cx}(le:Le X X'){n:Nat}{ys:List (List V)}{l:List Value}(h:jm X.h X.g.m n ys l):jm X'.h X'.g.m n ys l :=
 ⟨h.len,h.row,fun i row j v hi hj=>by
  obtain⟨a,y,b,c⟩:=h.cell i row j v hi hj;exact⟨a,y,b,c.mono le⟩⟩
theorem jm.nil{h:Array Obj}{m:Nat→Nat}{n:Nat}:jm h m n [] []:=⟨by simp,by simp,by simp⟩
theorem jm.append{h:Array Obj}{m:Nat→Nat}{n:Nat}{xs ys:List (List V)}{k l:List Value}(hx:jm h m n xs k)(hy:jm h m n ys l):jm h m n (xs++ys) (k++l) where
 len:=by simp[hx.len,hy.len,Nat.add_mul]
 row:=fun i row hr=>by
  rw[List.getElem?_append]at hr;split at hr
  ·exact hx.row i row hr
  ·exact hy.row _ row hr
 cell:=fun i row j v hr hj=>by
  rw[List.getElem?_append]at hr;split at hr
  ·rename_i hi
   obtain⟨p,y,q,r⟩:=hx.cell i row j v hr hj;have:=eZ q;exact⟨p,y,by rw[List.getElem?_append_left this];exact q,r⟩
  ·rename_i hi
   obtain⟨p,y,q,r⟩:=hy.cell _ row j v hr hj;refine⟨p,y,?_,r⟩;have e:i*n+j=xs.length*n+((i-xs.length)*n+j):=by
    rw[←Nat.add_assoc,← Nat.add_mul];congr 2;omega
   rw[List.getElem?_append_right (by rw[hx.len];omega),hx.len,e,Nat.add_sub_cancel_left]
   exact q
theorem jm.get{h:Array Obj}{m:Nat→Nat}{n:Nat}{ys:List (List V)}{l:List Value}(hr:jm h m n ys l){k:Nat}{y:Value}(hy:l[k]?=some y) :
  ∃v:V,fp h m v y:=by
 have hk:=eZ hy;rw[hr.len]at hk;have hn:0<n:=by
  rcases Nat.eq_zero_or_pos n with e|e
  ·subst e;simp at hk
  ·exact e
 have h1:k / n<ys.length:=Nat.div_lt_of_lt_mul (by rw[Nat.mul_comm];exact hk)
 have h2:=Nat.mod_lt k hn;have h3:=hr.row (k / n) ys[k / n] (List.getElem?_eq_getElem h1);obtain⟨_,z,hz,hv⟩:=hr.cell (k / n) ys[k / n] (k % n) (ys[k / n][k % n]'(by omega)) (List.getElem?_eq_getElem h1) (List.getElem?_eq_getElem (by omega))
 rw[Nat.mul_comm,Nat.div_add_mod,hy]at hz;cases hz;exact⟨_,hv⟩
theorem jm.xM{h:Array Obj}{m:Nat→Nat}{n:Nat}{ys:List (List V)}{l:List Value}(hr:jm h m n ys l):∀y∈l,y.oneCell'=true:=fun y hy=>by
 obtain⟨k,hk⟩:=List.mem_iff_getElem?.1 hy;obtain⟨v,hv⟩:=hr.get hk;exact hv.xM
def EP(h:Array Obj)(m:Nat→Nat)(n:Nat)(ys:List (List V))(x:Value):Prop :=
 (ys=[]∧∃base cap,x=.slice base 0 cap)∨∃b off cap l,x=.slice (some ⟨b,off,none⟩) ys.length cap∧ys.length≤cap∧(∀(j:Nat) (y:Value),l[j]?=some y→cellAt h b (off+j)=some y)∧jm h m n ys l
theorem ER{h:Array Obj}{m:Nat→Nat}{n:Nat}{tok:Option Nat}{ys:List (List V)}{x:Value}(hr:fp h m (.slice tok n ys) x):(ys=[]∧x=.slice none 0 0)∨(ys=[]∧∃a cap,x=.slice (some a) 0 cap) ∨
  ∃b off cap l,x=.slice (some ⟨b,off,none⟩) ys.length cap∧ys.length≤cap∧(∀(j:Nat) (y:Value),l[j]?=some y→cellAt h b (off+j)=some y)∧jm h m n ys l:=by
 cases hr with
 |nil=>exact .inl ⟨rfl,rfl⟩
 |empty _ _ a cap=>exact .inr (.inl ⟨rfl,a,cap,rfl⟩)
 |slice _ _ _ b off cap zs hb eP iI hc hv hp hm =>
  refine .inr <| .inr ⟨b,off,cap,(List.range (ys.length*n)).map (fun k=>(cellAt h b (off+k)).getD undef),rfl,eP,fun j y hj=>?_,by simp,iI,fun i row j v hi hj=>⟨hp i row j v hi hj,zs i j,?_,hv i row j v hi hj⟩⟩
  ·have bG:=eZ hj
   simp at bG;simp[bG]at hj;have hn:0<n:=by
    rcases Nat.eq_zero_or_pos n with e|e
    ·subst e;simp at bG
    ·exact e
   have h1:j / n<ys.length:=Nat.div_lt_of_lt_mul (by rw[Nat.mul_comm];exact bG)
   have h2:=Nat.mod_lt j hn;have h3:=iI (j / n) ys[j / n] (List.getElem?_eq_getElem h1);have h4:=hc (j / n) ys[j / n] (j % n) (ys[j / n][j % n]'(by omega)) (List.getElem?_eq_getElem h1) (List.getElem?_eq_getElem (by omega))
   rw[Nat.add_assoc,Nat.mul_comm,Nat.div_add_mod]at h4;rw[h4]at hj ⊢;simpa using hj
  ·have h3:=iI i row hi
   have h5:=eZ hj;have h6:=Io (eZ hi) (h3 ▸ h5);have h4:=hc i row j v hi hj;rw[Nat.add_assoc]at h4;simp[h6,h4]
theorem N8{h:Array Obj}{m:Nat→Nat}{n:Nat}{tok:Option Nat}{ys:List (List V)}{x:Value}(hr:fp h m (.slice tok n ys) x):EP h m n ys x:=by
 rcases ER hr with⟨h1,h2⟩ | ⟨h1,a,cap,h2⟩ | h
 ·exact .inl ⟨h1,none,0,h2⟩
 ·exact .inl ⟨h1,some a,cap,h2⟩
 ·exact .inr h
theorem Ad{h:Array Obj}{m:Nat→Nat}{n:Nat}{ys:List (List V)}{l:List Value}(hr:jm h m n ys l){b off cap:Nat}(hb:b<h.size)(eP:ys.length≤cap)
  (hc:∀(j:Nat) (y:Value),l[j]?=some y→cellAt h b (off+j)=some y) (hm:off+ys.length*n≤m b) (tok:Option Nat) :
  fp h m (.slice tok n ys) (.slice (some ⟨b,off,none⟩) ys.length cap):=by
 refine .slice tok n ys b off cap (fun i j=>(l[i*n+j]?).getD undef) hb eP hr.row (fun i row j v hi hj=>?_) (fun i row j v hi hj=>?_) (fun i row j v hi hj=>(hr.cell i row j v hi hj).1) hm
 ·obtain⟨_,y,hy,_⟩:=hr.cell i row j v hi hj
  rw[Nat.add_assoc,hc _ _ hy,hy];rfl
 ·obtain⟨_,y,hy,hv⟩:=hr.cell i row j v hi hj
  rw[hy];exact hv
theorem B7{X:Cx}{sh:Option Nat}{v u:V}{y:Value}(h:el sh v=some u)(hr:bj X v y):u.plain=true∧fp X.h X.g.m u y:=by
 unfold el at h;split at h
 ·cases h;cases hr with|plain h _=>exact⟨rfl,h⟩
 ·cases h;cases hr with|plain h _=>exact⟨rfl,h⟩
 ·cases h;cases hr with|plain h _=>exact⟨rfl,h⟩
 ·split at h
  ·cases h;rw[nV hr];exact⟨rfl,.aK⟩
  ·cases h;rw[nV hr];exact⟨rfl,.nil _ _⟩
  ·cases h
 ·cases h
  cases hr with
  |plain h _ =>
   refine⟨rfl,?_⟩;cases h with
   |nil=>exact .nil _ _
   |empty _ _ a cap=>exact .empty _ _ a cap
   |slice _ _ _ b off cap zs hb eP iI hc hv hp hm=>exact .slice _ _ _ b off cap zs hb eP iI hc hv hp hm
 ·cases h
  rcases rh hr with rfl | ⟨a,rfl⟩
  ·exact⟨rfl,.nil _ _⟩
  ·exact⟨rfl,.empty _ _ a 0⟩
 ·cases h
  obtain⟨a,cap,rfl⟩:=B0 hr;exact⟨rfl,.empty _ _ a cap⟩
 ·cases h
theorem B8:∀{sh:Sh} {vs us:List V},lP sh vs=some us→us.length=sh.length∧vs.length=sh.length
 |[],[],us,h=>by simp[lP]at h;subst h;simp
 |[],_::_,_,h=>by simp[lP]at h
 |_::_,[],_,h=>by simp[lP]at h
 |s::sh,v::vs,us,h=>by
  simp only[lP]at h;split at h
  ·rename_i u ml h1 h2
   cases h;obtain⟨a,b⟩:=B8 h2;simp[a,b]
  ·cases h
theorem ES:∀{sh:Sh} {vs us:List V},lP sh vs=some us→∀(j:Nat) (u:V),us[j]?=some u→∃v s,vs[j]?=some v∧el s v=some u
 |[],[],us,h,j,u,hu=>by simp[lP]at h;subst h;simp at hu
 |[],_::_,_,h,_,_,_=>by simp[lP]at h
 |_::_,[],_,h,_,_,_=>by simp[lP]at h
 |s::sh,v::vs,us,h,j,u,hu=>by
  simp only[lP]at h;split at h
  ·rename_i u' ml h1 h2
   cases h;cases j with
   |zero=>simp at hu;subst hu;exact⟨v,s,by simp,h1⟩
   |succ j=>obtain⟨z,t,p,q⟩:=ES h2 j u (by simpa using hu);exact⟨z,t,by simpa using p,q⟩
  ·cases h
theorem Ip{sh:Sh}:∀{rs us:List (List V)},ly sh rs=some us→us.length=rs.length∧∀(i:Nat) (u:List V),us[i]?=some u→∃r,rs[i]?=some r∧lP sh r=some u
 |[],us,h=>by simp[ly]at h;subst h;simp
 |r::rs,us,h=>by
  simp only[ly]at h;split at h
  ·rename_i u' ml h1 h2
   cases h;obtain⟨a,b⟩:=Ip h2;refine⟨by simp[a],fun i u hu=>?_⟩
   cases i with
   |zero=>simp at hu;subst hu;exact⟨r,by simp,h1⟩
   |succ i=>obtain⟨z,p,q⟩:=b i u (by simpa using hu);exact⟨z,by simpa using p,q⟩
  ·cases h
theorem N9{sz:Nat}{cs:List V}:∀{n off i:Nat} {r:List V},(chunks sz cs off n)[i]?=some r→i<n∧r=(cs.drop (off+i*sz)).take sz
 |0,off,i,r,h=>by simp[chunks]at h
 |n+1,off,i,r,h=>by
  simp only[chunks]at h;cases i with
  |zero=>simp at h;subst h;simp
  |succ i =>
   obtain⟨a,b⟩:=N9 (n:=n) (by simpa using h)
   refine⟨by omega,?_⟩
   rw[b,Nat.succ_mul];congr 2;omega
theorem Iq{sz:Nat}{cs:List V}:∀{n off:Nat},(chunks sz cs off n).length=n
 |0,off=>rfl
 |n+1,off=>by simp[chunks,Iq]
theorem Oa{X:Cx}{sh:Sh}{cs:List V}{c:Array Value}(fx:∀(j:Nat) (v:V),cs[j]?=some v→∃y,c[j]?=some y∧bj X v y){off n:Nat}(hle:off+n*sh.length≤cs.length)
  {ys:List (List V)} (h:ly sh (chunks sh.length cs off n)=some ys):ys.length=n∧jm X.h X.g.m sh.length ys ((c.toList.drop off).take (n*sh.length)):=by
 obtain⟨h1,h2⟩:=Ip h;rw[Iq]at h1;have hc:cs.length≤c.size:=by
  rcases Nat.lt_or_ge c.size cs.length with h|h
  ·obtain⟨y,hy,_⟩:=fx c.size cs[c.size] (List.getElem?_eq_getElem h)
   simp at hy
  ·exact h
 refine⟨h1,by simp[h1];omega,fun i row hr=>?_,fun i row j v hr hj=>?_⟩
 ·obtain⟨r,rA,oF⟩:=h2 i row hr
  exact(B8 oF).1
 ·obtain⟨r,rA,oF⟩:=h2 i row hr
  obtain⟨z,s,hz,tg⟩:=ES oF j v hj;obtain⟨hi,rfl⟩:=N9 rA;have pn:=eZ hj;rw[(B8 oF).1]at pn;simp only[List.getElem?_take,List.getElem?_drop,pn,if_true]at hz;obtain⟨y,hy,hx⟩:=fx _ z hz;obtain⟨p,q⟩:=B7 tg hx;refine⟨p,y,?_,q⟩;have:=Io hi pn;rw[List.getElem?_take,if_pos this,List.getElem?_drop,← Nat.add_assoc];simpa using hy
theorem B9(hR:R E g S a w){sh:Sh}{v:V}{x:Value}(hr:bj (S.cx g w) v x){ys:List (List V)}(h:S.rows sh v=some ys):EP w.heap g.m sh.length ys x:=by
 unfold St.rows at h;split at h
 ·cases h;exact .inl ⟨rfl,none,0,nV hr⟩
 ·rename_i tk n es
  cases hn:n==sh.length with
  |false=>simp[hn]at h
  |true =>
   simp only[hn,cond_true,Option.some.injEq]at h;have:=eq_of_beq hn;subst this;subst h;cases hr with
   |plain h _=>exact N8 h
 ·cases h
  rcases rh hr with e | ⟨a,e⟩
  ·exact .inl ⟨rfl,none,0,e⟩
  ·exact .inl ⟨rfl,some a,0,e⟩
 ·cases h
  obtain⟨a,cap,e⟩:=B0 hr;exact .inl ⟨rfl,some a,cap,e⟩
 ·cases h
theorem Ir(hR:R E g S a w){sh:Sh}{v:V}{x:Value}(hr:bj (S.cx g w) v x){ys:List (List V)}(h:S.rS sh v=some ys):∃id n,v=.cb id sh.length n∧ys.length=n∧(n=0∧kG x∨∃cap,n≤cap∧x=.slice (some ⟨g.κ id,0,none⟩) n cap ∧
  ∃c e,w.heap[g.κ id]?=some (.cells c e (0,0))∧n*sh.length≤c.size∧jm w.heap g.m sh.length ys (c.toList.take (n*sh.length))∧g.ow (g.κ id)=.obj id∧E.w0.heap.size≤g.κ id∧g.m (g.κ id)=0):=by
 unfold St.rS at h;split at h
 ·rename_i id off n
  split at h
  ·rename_i cs ho
   cases hle:((off==sh.length)&&Nat.blt 0 sh.length&&Nat.ble (n*sh.length) cs.length) with
   |false=>simp[hle]at h
   |true =>
    simp only[hle,cond_true]at h;simp only[Bool.and_eq_true,beq_iff_eq]at hle;obtain⟨⟨rfl,hH⟩,hle⟩:=hle;have hH:0<sh.length:=by simpa [Nat.blt_eq] using hH
    have hle:=Nat.le_of_ble_eq_true hle;rcases (pJ hr).symm with⟨h0,hz,_⟩ | ⟨cap,eP,fH,hx⟩
    ·subst h0
     refine⟨id,0,rfl,?_,.inl ⟨rfl,hz⟩⟩;simp only[chunks,ly,Option.some.injEq]at h;subst h;rfl
    rcases hR.bb id _ ho with⟨h0,um⟩ | ⟨cJ,gG,hm,c,e,hh,_,hj⟩
    ·subst h0
     have fH:cap*sh.length=0:=fH.trans um;have Ca:cap=0:=by rcases Nat.mul_eq_zero.1 fH with h|h<;>omega
     subst Ca;obtain rfl:n=0:=by omega
     refine⟨id,0,rfl,?_,.inl ⟨rfl,.inr ⟨_,hx⟩⟩⟩;simp only[chunks,ly,Option.some.injEq]at h;subst h;rfl
    obtain⟨h1,h2⟩:=Oa (X:=S.cx g w) (c:=c) (off:=0) (fun j v hv=>(hj j v hv).2) (by omega) h
    refine⟨id,n,rfl,h1,.inr ⟨cap,eP,hx,c,e,hh,?_,by have:=h2;simp only[List.drop_zero]at this;exact this,cJ,gG,hm⟩⟩
    have:=h2.len;simp at this;rw[h1]at this;rcases Nat.lt_or_ge c.size (n*sh.length) with h3|h3
    ·rcases Nat.eq_zero_or_pos (n*sh.length) with h4|h4
     ·have hc:cs.length≤c.size:=by
       rcases Nat.lt_or_ge c.size cs.length with h|h
       ·obtain⟨_,y,hy,_⟩:=hj c.size cs[c.size] (List.getElem?_eq_getElem h)
        simp at hy
       ·exact h
      omega
     ·omega
    ·exact h3
  ·cases h
 ·cases h
theorem R.Is(hR:R E g S a w){f:Nat}{c:Array Value}{e:TypeId}(hw:w'.heap=w.heap.push (.cells c e (0,0)))(h1:w'.os=w.os)(h2:w'.tape=w.tape)(h3:w'.output=w.output)
  {n:Nat} {ys:List (List V)} {l:List Value} (hH:0<ys.length) (hf:S.eR f∨∃k,look f S.bm=some k∧k<ys.length)
  (hl:jm w.heap g.m n ys l) (hc:∀(j:Nat) (y:Value),l[j]?=some y→c[j]?=some y) {cap:Nat} (eP:ys.length≤cap) (eH:cap*n≤c.size) :
  ∃g',R E g' { S with bm:=(f,ys.length)::S.bm } a w' ∧
   bj (({ S with bm:=(f,ys.length)::S.bm }:St).cx g' w') (.slice (some f) n ys) (.slice (some ⟨w.heap.size,0,none⟩) ys.length cap):=by
 let g':Gh:={ g with m:=c7 g.m w.heap.size (ys.length*n),τ:=c7 g.τ f (some w.heap.size),ow:=c7 g.ow w.heap.size (.tok f) }
 have t:Touch E g S w g' ((f,ys.length)::S.bm) S.az.length w' w.heap.size none (some f):=B4 hR hw h1 h2 h3 (fun b hb=>gP _ _ hb) (fun b hb=>gP _ _ hb)
  (fun i _=>rfl) (fun i _=>rfl) (fun i hi=>gP _ _ (fun e=>hi (by rw[e]))) (fun i hi=>by rw[dQ,if_neg (fun e=>hi (by rw[e]))]) (fun i _=>rfl) (Nat.le_refl _) (fun i a b=>absurd a (by omega)) (fun i e=>by(have e:c7 g.ow w.heap.size (.tok f) w.heap.size=.az i:=e);rw[dP]at e;cases e)
 have kJ:∀i,iP (S.cx g w) ⟨w'.heap,g',S.az.length,(f,ys.length)::S.bm⟩ i∨S.eR i:=fun i=>by
  by_cases hi:f=i
  ·subst hi
   rcases hf with hf | ⟨k,hk,bG⟩
   ·exact .inr hf
   ·refine .inl ⟨rfl,rfl,fun k' jO=>⟨k,hk,?_,fun e=>?_⟩⟩
    ·simp only[dQ,if_true,Option.some.injEq]at jO;omega
    ·simp only[dQ,if_true,Option.some.injEq]at jO;omega
  ·exact .inl (t.keeps hR (fun e=>by cases e) (fun e=>hi (by cases e;rfl)) (fun h=>absurd h (Nat.lt_irrefl _)))
 have lj:=B6 hw;refine⟨g',R.nf t hR rfl rfl kJ (fun s v hs=>.inl hs) (fun i cs ho=>.inl ⟨ho,(fun e=>by cases e),fun h=>absurd h (Nat.lt_irrefl _)⟩) (fun i k b hi hb=>?_)
  (fun i o ho=>.inl ⟨ho,fun h=>absurd h (Nat.lt_irrefl _)⟩),?_⟩
 ·by_cases hif:f=i
  ·subst hif
   have mK:c7 g.τ f (some w.heap.size) f=some b:=hb;rw[dP]at mK;cases mK;exact .inr ⟨dP _ _ _,.inl hR.same.size,by rw[hw];simp⟩
  ·exact .inl ⟨(fun e=>hif (by cases e;rfl)),fun h=>absurd h (Nat.lt_irrefl _)⟩
 ·have hm:g'.m w.heap.size=ys.length*n:=dP _ _ _
  refine .plain (Ad (m:=g'.m) (l:=l) ?_ (by show _<w'.heap.size;rw[hw];simp) eP (fun j y hj=>?_) (by omega) _) (fun i n' nY he k hk=>?_)
  ·exact hl.mono t.le
  ·show cellAt w'.heap _ _=_
   rw[lg lj,Nat.zero_add];exact hc j y hj
  ·cases he
   simp only[St.cx,dQ,if_true,Option.some.injEq]at hk;subst hk;exact⟨Nat.le_refl _,fun _=>.inr ⟨w.heap.size,0,cap,c,e,dP _ _ _,rfl,by show g'.m _=_;rw[hm];omega,lj,by omega,rfl,hH⟩⟩
theorem R.ET(hR:R E g S a w){f:Nat}(hf:S.eR f):∃g',R E g' { S with bm:=(f,0)::S.bm } a w ∧
  (∀n x,kG x→bj (({ S with bm:=(f,0)::S.bm }:St).cx g' w) (.slice (some f) n []) x)∧∀v x,bj (S.cx g w) v x→v.cu f=false→bj (({ S with bm:=(f,0)::S.bm }:St).cx g' w) v x:=by
 let g':Gh:={ g with τ:=c7 g.τ f none }
 have t:Touch E g S w g' ((f,0)::S.bm) S.az.length w w.heap.size none (some f) :=
  {os:=rfl,tape:=rfl,output:=rfl,size:=Nat.le_refl _,heap:=fun _ _ _=>rfl,m:=fun _ _=>rfl,ow:=fun _ _=>rfl,κ:=fun _ _=>rfl,cp:=fun _ _=>rfl,
   τ:=fun i hi=>gP _ _ (fun e=>hi (by rw[e])),T:=fun i hi=>by rw[dQ,if_neg (fun e=>hi (by rw[e]))],γ:=fun _ _=>rfl,fb:=Nat.le_refl _,
   γnew:=fun i a b=>absurd a (by omega),fresh:=.inl hR.same.size,ig:=fun _ _ h _=>absurd hR.same.size (Nat.not_le_of_lt h),lv:=fun i h=>hR.z8 h (Nat.le_refl _),jk:=fun _ _ _ hy=>hy,oC:=fun h=>absurd h (Nat.lt_irrefl _) }
 have Ob:∀i,iP (S.cx g w) ⟨w.heap,g',S.az.length,(f,0)::S.bm⟩ i∨i=f:=fun i=>by
  by_cases hi:f=i
  ·exact .inr hi.symm
  ·exact .inl (t.keeps hR (fun e=>by cases e) (fun e=>hi (by cases e;rfl)) (fun h=>absurd h (Nat.lt_irrefl _)))
 refine⟨g',R.nf t hR rfl rfl (fun i=>(Ob i).imp (fun z=>z) fun e=>by rw[e];exact hf) (fun s v hs=>.inl hs) (fun i cs ho=>.inl ⟨ho,(fun e=>by cases e),fun h=>absurd h (Nat.lt_irrefl _)⟩) (fun i k b hi hb=>?_)
  (fun i o ho=>.inl ⟨ho,fun h=>absurd h (Nat.lt_irrefl _)⟩),fun n x hz=>?_,fun v x hx hm=>hx.mono t.le fun i=>(Ob i).imp (fun z=>z) fun e=>by rw[e];exact hm⟩
 ·by_cases hif:f=i
  ·subst hif
   have mK:c7 g.τ f none f=some b:=hb;rw[dP]at mK;cases mK
  ·exact .inl ⟨(fun e=>hif (by cases e;rfl)),fun h=>absurd h (Nat.lt_irrefl _)⟩
 ·refine .plain (by rcases hz with rfl | ⟨a,rfl⟩<;>first|exact .nil _ _|exact .empty _ _ a 0) (fun i n' nY he k hk=>?_)
  cases he;simp only[St.cx,dQ,if_true,Option.some.injEq]at hk;subst hk;exact⟨Nat.le_refl _,fun _=>.inl ⟨rfl,hz⟩⟩
theorem R.again(hR:R E g S a w){f k:Nat}(hf:look f S.bm=some k):R E g { S with bm:=(f,k)::S.bm } a w∧∀v x,bj (S.cx g w) v x→bj (({ S with bm:=(f,k)::S.bm }:St).cx g w) v x:=by
 have hl:∀i,look i ((f,k)::S.bm)=look i S.bm:=fun i=>by
  rw[dQ];by_cases h:f=i
  ·subst h;rw[if_pos rfl,hf]
  ·rw[if_neg h]
 have hk:∀i,iP (S.cx g w) (({ S with bm:=(f,k)::S.bm }:St).cx g w) i:=fun i=>⟨rfl,rfl,fun k' h=>⟨k',(hl i).symm.trans h,Nat.le_refl _,fun _=>⟨rfl,fun _ _=>⟨rfl,fun c _ h=>⟨c,h,rfl⟩⟩⟩⟩⟩;have le:Le (S.cx g w) (({ S with bm:=(f,k)::S.bm }:St).cx g w):=⟨Nat.le_refl _,fun _ _ _ _ h=>h,fun _ _=>Nat.le_refl _,Nat.le_refl _,fun _ _=>rfl⟩;refine⟨⟨fun s v hs=>?_,fun id cs ho=>?_,fun f' k' b It hb=>?_,hR.az,hR.defers,hR.jy,hR.same⟩,fun v x hx=>hx.mono le fun i=>.inl (hk i)⟩
 ·obtain⟨x,h1,h2⟩:=hR.env s v hs
  exact⟨x,h1,h2.mono le fun i=>.inl (hk i)⟩
 ·rcases hR.bb id cs ho with h0 | ⟨h1,h2,h3,c,e,h4,fH,h5⟩
  ·exact .inl h0
  refine .inr ⟨h1,h2,h3,c,e,h4,fH,fun j v hj=>?_⟩;obtain⟨h6,y,h7,h8⟩:=h5 j v hj;exact⟨h6,y,h7,h8.mono le fun i=>.inl (hk i)⟩
 ·exact hR.bm f' k' b (by rw[←hl f'];exact It) hb
theorem R.WT(hR:R E g S a w){f b:Nat}{k:Nat}(hk:look f S.bm=some k)(hτ:g.τ f=some b){c:Array Value}{e:TypeId}(hb:w.heap[b]?=some (.cells c e (0,0)))
  {off n cap:Nat} (hm:g.m b=off+k*n) (nb:off=0) {es ys:List (List V)} {l0 l:List Value} (mL:es.length=k) (hy:ys≠[]) (eP:(k+ys.length)≤cap) (fX:off+cap*n≤c.size)
  (h0:jm w.heap g.m n es l0) (Ca:∀(j:Nat) (y:Value),l0[j]?=some y→cellAt w.heap b (off+j)=some y) (hl:jm w.heap g.m n ys l)
  {c':Array Value} (uk:c'=(c.toList.take (off+k*n)++l++c.toList.drop (off+k*n+l.length)).toArray) :
  ∃g',R E g' { S with bm:=(f,k+ys.length)::S.bm } a (w.setRow b c') ∧
   bj (({ S with bm:=(f,k+ys.length)::S.bm }:St).cx g' (w.setRow b c')) (.slice (some f) n (es++ys)) (.slice (some ⟨b,off,none⟩) (k+ys.length) cap):=by
 obtain⟨cJ,gG,Oc⟩:=hR.bm f k b hk hτ;have km:=hl.len;have h1:(k+ys.length)*n≤cap*n:=Nat.mul_le_mul_right n eP;rw[Nat.add_mul]at h1;have eH:c'.size=c.size:=by rw[uk];simp;omega
 have lj:(w.setRow b c').heap[b]?=some (.cells c' e (0,0)):=setRow_heap w b c c' e _ hb;have WU:∀i,i≠b→(w.setRow b c').heap[i]?=w.heap[i]?:=fun i hi=>by
  simp only[World.setRow,Array.getElem?_modify];rw[if_neg (by omega)]
 have hold:∀j,j<off+k*n→c'[j]?=c[j]?:=fun j hj=>by
  rw[uk];simp only[List.getElem?_toArray,List.append_assoc];rw[List.getElem?_append_left (by simp;omega)]
  simp[hj]
 have WV:∀(j:Nat) (y:Value),l[j]?=some y→c'[off+k*n+j]?=some y:=fun j y hj=>by
  have:=eZ hj;rw[uk];simp only[List.getElem?_toArray,List.append_assoc];rw[List.getElem?_append_right (by simp;omega),List.getElem?_append_left (by simp;omega),← hj]
  congr 1;simp;omega
 let g':Gh:={ g with m:=c7 g.m b (off+(k+ys.length)*n) }
 have xJ:g'.m b=off+(k+ys.length)*n:=dP _ _ _;have t:Touch E g S w g' ((f,k+ys.length)::S.bm) S.az.length (w.setRow b c') b none (some f) :=
  {os:=rfl,tape:=rfl,output:=rfl,size:=by simp,heap:=fun i hi _=>WU i hi,m:=fun i hi=>gP _ _ hi,ow:=fun _ _=>rfl,κ:=fun _ _=>rfl,cp:=fun _ _=>rfl,
   τ:=fun i hi=>rfl,T:=fun i hi=>by rw[dQ,if_neg (fun e=>hi (by rw[e]))],γ:=fun _ _=>rfl,fb:=Nat.le_refl _,
   γnew:=fun i a b=>absurd a (by omega),fresh:=gG.imp (fun z=>z) .inr,ig:=fun p q _ e=>by(have e:g.ow b=.cell p q:=e);rw[cJ]at e;exact absurd e (fun e=>nomatch e),
   lv:=fun i e=>by(have e:g.ow b=.az i:=e);rw[cJ]at e;exact absurd e (fun e=>nomatch e)
   jk:=fun o y ho hy=>by
    rw[lg hb]at hy;rw[lg lj,hold o (by omega)]
    exact hy
   oC:=fun _=>by rw[xJ,hm,Nat.add_mul];omega }
 have akM:0<ys.length:=List.length_pos_iff.2 hy;have kJ:∀i,iP (S.cx g w) ⟨(w.setRow b c').heap,g',S.az.length,(f,k+ys.length)::S.bm⟩ i:=fun i=>by
  by_cases hi:f=i
  ·subst hi
   refine⟨rfl,rfl,fun k' jO=>⟨k,hk,?_,fun e=>?_⟩⟩
   ·simp only[dQ,if_true,Option.some.injEq]at jO;omega
   ·simp only[dQ,if_true,Option.some.injEq]at jO;omega
  ·exact t.keeps hR (fun e=>by cases e) (fun e=>hi (by cases e;rfl)) (fun _ e=>hi (by rw[cJ]at e;cases e;rfl))
 refine⟨g',R.nf t hR rfl rfl (fun i=>.inl (kJ i)) (fun s v hs=>.inl hs) (fun i cs ho=>.inl ⟨ho,(fun e=>by cases e),fun _ e=>by rw[cJ]at e;cases e⟩) (fun i k' b' hi mK=>?_)
  (fun i o ho=>.inl ⟨ho,fun _=>⟨fun e=>(by rw[cJ]at e;cases e),fun _ e=>(by rw[cJ]at e;cases e)⟩⟩),?_⟩
 ·by_cases hif:f=i
  ·subst hif
   have Od:g.τ f=some b':=mK;rw[hτ]at Od;cases Od;exact .inr ⟨cJ,gG,by simpa using Oc⟩
  ·exact .inl ⟨(fun e=>hif (by cases e;rfl)),fun _ e=>hif (by rw[cJ]at e;cases e;rfl)⟩
 ·have xR:=(h0.mono t.le).append (hl.mono t.le)
  have hlen:(es++ys).length=k+ys.length:=by simp[mL]
  rw[←hlen];refine .plain (Ad (m:=g'.m) xR (by show b<(w.setRow b c').heap.size;simpa using Oc) (by omega) (fun j y hj=>?_) (by rw[hlen];omega) _) (fun i n' nY he k' jO=>?_)
  ·show cellAt (w.setRow b c').heap b _=_
   rw[lg lj];have WW:=h0.len;rw[mL]at WW;rw[List.getElem?_append]at hj;split at hj
   ·rename_i bG
    have h5:=Ca j y hj;rw[lg hb]at h5;rw[hold _ (by omega)]
    exact h5
   ·rename_i bG
    have h6:=WV _ y hj;rw[show off+j=off+k*n+(j-l0.length) from by omega]
    exact h6
  ·cases he
   simp only[St.cx,dQ,if_true,Option.some.injEq]at jO;have pM:k'=k+ys.length:=by rw[←jO,hlen]
   subst pM;exact⟨by omega,fun _=>.inr ⟨b,off,cap,c',e,hτ,by rw[hlen],xJ,lj,by omega,nb,by omega⟩⟩
end
end Go.Vm

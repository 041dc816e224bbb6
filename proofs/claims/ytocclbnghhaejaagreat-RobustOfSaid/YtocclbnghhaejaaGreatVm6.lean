/- The value machine, 6: rows of cells, slices that grow, stores, blocks that calls share. -/
import Derived.Test.YtocclbnghhaejaaGreatVm5
namespace Go.Vm
set_option linter.all false
section
variable {P:Program} {E:Entry} {g g':Gh} {S S':St} {a:Act} {w w':World} {T':List (Nat×Nat)} {N' B:Nat}
structure jz(h:Array Obj)(m:Nat→Nat)(n:Nat)(ys:List (List V))(l:List Value):Prop where
 len:l.length=ys.length*n
 row:∀(i:Nat) (row:List V),ys[i]?=some row→row.length=n
 cell:∀(i:Nat) (row:List V) (j:Nat) (v:V),ys[i]?=some row→row[j]?=some v→v.plain=true∧∃y,l[i*n+j]?=some y∧fg h m v y
theorem KS{i k n j:Nat}(hi:i<k)(hj:j<n):i*n+j<k*n:=by
 have h:=Nat.mul_le_mul_right n hi;rw[Nat.succ_mul]at h;omega
theorem jz.mono{X X':Cx}(le:Le X X'){n:Nat}{ys:List (List V)}{l:List Value}(h:jz X.h X.g.m n ys l):jz X'.h X'.g.m n ys l :=
 ⟨h.len,h.row,fun i row j v hi hj=>by
  obtain⟨a,y,b,c⟩:=h.cell i row j v hi hj;exact⟨a,y,b,c.mono le⟩⟩
theorem jz.nil{h:Array Obj}{m:Nat→Nat}{n:Nat}:jz h m n [] []:=⟨by simp,by simp,by simp⟩
theorem jz.append{h:Array Obj}{m:Nat→Nat}{n:Nat}{xs ys:List (List V)}{k l:List Value}(hx:jz h m n xs k)(hy:jz h m n ys l):jz h m n (xs++ys) (k++l) where
 len:=by simp[hx.len,hy.len,Nat.add_mul]
 row:=fun i row hr=>by
  rw[List.getElem?_append]at hr;split at hr
  ·exact hx.row i row hr
  ·exact hy.row _ row hr
 cell:=fun i row j v hr hj=>by
  rw[List.getElem?_append]at hr;split at hr
  ·rename_i hi
   obtain⟨p,y,q,r⟩:=hx.cell i row j v hr hj;have:=eK q;exact⟨p,y,by rw[List.getElem?_append_left this];exact q,r⟩
  ·rename_i hi
   obtain⟨p,y,q,r⟩:=hy.cell _ row j v hr hj;refine⟨p,y,?_,r⟩;have e:i*n+j=xs.length*n+((i-xs.length)*n+j):=by
    rw[←Nat.add_assoc,← Nat.add_mul];congr 2;omega
   rw[List.getElem?_append_right (by rw[hx.len];omega),hx.len,e,Nat.add_sub_cancel_left]
   exact q
theorem jz.get{h:Array Obj}{m:Nat→Nat}{n:Nat}{ys:List (List V)}{l:List Value}(hr:jz h m n ys l){k:Nat}{y:Value}(hy:l[k]?=some y) :
  ∃v:V,fg h m v y:=by
 have hk:=eK hy;rw[hr.len]at hk;have hn:0<n:=by
  rcases Nat.eq_zero_or_pos n with e|e
  ·subst e;simp at hk
  ·exact e
 have h1:k / n<ys.length:=Nat.div_lt_of_lt_mul (by rw[Nat.mul_comm];exact hk)
 have h2:=Nat.mod_lt k hn;have h3:=hr.row (k / n) ys[k / n] (List.getElem?_eq_getElem h1);obtain⟨_,z,hz,hv⟩:=hr.cell (k / n) ys[k / n] (k % n) (ys[k / n][k % n]'(by omega)) (List.getElem?_eq_getElem h1) (List.getElem?_eq_getElem (by omega))
 rw[Nat.mul_comm,Nat.div_add_mod,hy]at hz;cases hz;exact⟨_,hv⟩
theorem jz.AD{h:Array Obj}{m:Nat→Nat}{n:Nat}{ys:List (List V)}{l:List Value}(hr:jz h m n ys l):∀y∈l,y.oneCell'=true:=fun y hy=>by
 obtain⟨k,hk⟩:=List.mem_iff_getElem?.1 hy;obtain⟨v,hv⟩:=hr.get hk;exact hv.AD
def Hu(h:Array Obj)(m:Nat→Nat)(n:Nat)(ys:List (List V))(x:Value):Prop :=
 (ys=[]∧∃base cap,x=.slice base 0 cap)∨∃b off cap l,x=.slice (some ⟨b,off,none⟩) ys.length cap∧ys.length≤cap∧(∀(j:Nat) (y:Value),l[j]?=some y→cellAt h b (off+j)=some y)∧jz h m n ys l
theorem Hv{h:Array Obj}{m:Nat→Nat}{n:Nat}{tok:Option Nat}{ys:List (List V)}{x:Value}(hr:fg h m (.slice tok n ys) x):(ys=[]∧x=.slice none 0 0)∨(ys=[]∧∃a cap,x=.slice (some a) 0 cap) ∨
  ∃b off cap l,x=.slice (some ⟨b,off,none⟩) ys.length cap∧ys.length≤cap∧(∀(j:Nat) (y:Value),l[j]?=some y→cellAt h b (off+j)=some y)∧jz h m n ys l:=by
 cases hr with
 |nil=>exact .inl ⟨rfl,rfl⟩
 |empty _ _ a cap=>exact .inr (.inl ⟨rfl,a,cap,rfl⟩)
 |slice _ _ _ b off cap zs hb eA iM hc hv hp hm =>
  refine .inr <| .inr ⟨b,off,cap,(List.range (ys.length*n)).map (fun k=>(cellAt h b (off+k)).getD undef),rfl,eA,fun j y hj=>?_,by simp,iM,fun i row j v hi hj=>⟨hp i row j v hi hj,zs i j,?_,hv i row j v hi hj⟩⟩
  ·have bA:=eK hj
   simp at bA;simp[bA]at hj;have hn:0<n:=by
    rcases Nat.eq_zero_or_pos n with e|e
    ·subst e;simp at bA
    ·exact e
   have h1:j / n<ys.length:=Nat.div_lt_of_lt_mul (by rw[Nat.mul_comm];exact bA)
   have h2:=Nat.mod_lt j hn;have h3:=iM (j / n) ys[j / n] (List.getElem?_eq_getElem h1);have h4:=hc (j / n) ys[j / n] (j % n) (ys[j / n][j % n]'(by omega)) (List.getElem?_eq_getElem h1) (List.getElem?_eq_getElem (by omega))
   rw[Nat.add_assoc,Nat.mul_comm,Nat.div_add_mod]at h4;rw[h4]at hj ⊢;simpa using hj
  ·have h3:=iM i row hi
   have h5:=eK hj;have h6:=KS (eK hi) (h3 ▸ h5);have h4:=hc i row j v hi hj;rw[Nat.add_assoc]at h4;simp[h6,h4]
theorem Q7{h:Array Obj}{m:Nat→Nat}{n:Nat}{tok:Option Nat}{ys:List (List V)}{x:Value}(hr:fg h m (.slice tok n ys) x):Hu h m n ys x:=by
 rcases Hv hr with⟨h1,h2⟩ | ⟨h1,a,cap,h2⟩ | h
 ·exact .inl ⟨h1,none,0,h2⟩
 ·exact .inl ⟨h1,some a,cap,h2⟩
 ·exact .inr h
theorem AG{h:Array Obj}{m:Nat→Nat}{n:Nat}{ys:List (List V)}{l:List Value}(hr:jz h m n ys l){b off cap:Nat}(hb:b<h.size)(eA:ys.length≤cap)
  (hc:∀(j:Nat) (y:Value),l[j]?=some y→cellAt h b (off+j)=some y) (hm:off+ys.length*n≤m b) (tok:Option Nat) :
  fg h m (.slice tok n ys) (.slice (some ⟨b,off,none⟩) ys.length cap):=by
 refine .slice tok n ys b off cap (fun i j=>(l[i*n+j]?).getD undef) hb eA hr.row (fun i row j v hi hj=>?_) (fun i row j v hi hj=>?_) (fun i row j v hi hj=>(hr.cell i row j v hi hj).1) hm
 ·obtain⟨_,y,hy,_⟩:=hr.cell i row j v hi hj
  rw[Nat.add_assoc,hc _ _ hy,hy];rfl
 ·obtain⟨_,y,hy,hv⟩:=hr.cell i row j v hi hj
  rw[hy];exact hv
theorem En{X:Cx}{sh:Option Nat}{v u:V}{y:Value}(h:el sh v=some u)(hr:aZ X v y):u.plain=true∧fg X.h X.g.m u y:=by
 unfold el at h;split at h
 ·cases h;cases hr with|plain h _=>exact⟨rfl,h⟩
 ·cases h;cases hr with|plain h _=>exact⟨rfl,h⟩
 ·cases h;cases hr with|plain h _=>exact⟨rfl,h⟩
 ·split at h
  ·cases h;rw[nG hr];exact⟨rfl,.bV⟩
  ·cases h;rw[nG hr];exact⟨rfl,.nil _ _⟩
  ·cases h
 ·cases h
  cases hr with
  |plain h _ =>
   refine⟨rfl,?_⟩;cases h with
   |nil=>exact .nil _ _
   |empty _ _ a cap=>exact .empty _ _ a cap
   |slice _ _ _ b off cap zs hb eA iM hc hv hp hm=>exact .slice _ _ _ b off cap zs hb eA iM hc hv hp hm
 ·cases h
  rcases sJ hr with rfl | ⟨a,rfl⟩
  ·exact⟨rfl,.nil _ _⟩
  ·exact⟨rfl,.empty _ _ a 0⟩
 ·cases h
  obtain⟨a,cap,rfl⟩:=Eg hr;exact⟨rfl,.empty _ _ a cap⟩
 ·cases h
theorem Eo:∀{sh:Sh} {vs us:List V},mn sh vs=some us→us.length=sh.length∧vs.length=sh.length
 |[],[],us,h=>by simp[mn]at h;subst h;simp
 |[],_::_,_,h=>by simp[mn]at h
 |_::_,[],_,h=>by simp[mn]at h
 |s::sh,v::vs,us,h=>by
  simp only[mn]at h;split at h
  ·rename_i u kH h1 h2
   cases h;obtain⟨a,b⟩:=Eo h2;simp[a,b]
  ·cases h
theorem Hw:∀{sh:Sh} {vs us:List V},mn sh vs=some us→∀(j:Nat) (u:V),us[j]?=some u→∃v s,vs[j]?=some v∧el s v=some u
 |[],[],us,h,j,u,hu=>by simp[mn]at h;subst h;simp at hu
 |[],_::_,_,h,_,_,_=>by simp[mn]at h
 |_::_,[],_,h,_,_,_=>by simp[mn]at h
 |s::sh,v::vs,us,h,j,u,hu=>by
  simp only[mn]at h;split at h
  ·rename_i u' kH h1 h2
   cases h;cases j with
   |zero=>simp at hu;subst hu;exact⟨v,s,by simp,h1⟩
   |succ j=>obtain⟨z,t,p,q⟩:=Hw h2 j u (by simpa using hu);exact⟨z,t,by simpa using p,q⟩
  ·cases h
theorem KT{sh:Sh}:∀{rs us:List (List V)},kr sh rs=some us→us.length=rs.length∧∀(i:Nat) (u:List V),us[i]?=some u→∃r,rs[i]?=some r∧mn sh r=some u
 |[],us,h=>by simp[kr]at h;subst h;simp
 |r::rs,us,h=>by
  simp only[kr]at h;split at h
  ·rename_i u' kH h1 h2
   cases h;obtain⟨a,b⟩:=KT h2;refine⟨by simp[a],fun i u hu=>?_⟩
   cases i with
   |zero=>simp at hu;subst hu;exact⟨r,by simp,h1⟩
   |succ i=>obtain⟨z,p,q⟩:=b i u (by simpa using hu);exact⟨z,by simpa using p,q⟩
  ·cases h
theorem Q8{sz:Nat}{cs:List V}:∀{n off i:Nat} {r:List V},(chunks sz cs off n)[i]?=some r→i<n∧r=(cs.drop (off+i*sz)).take sz
 |0,off,i,r,h=>by simp[chunks]at h
 |n+1,off,i,r,h=>by
  simp only[chunks]at h;cases i with
  |zero=>simp at h;subst h;simp
  |succ i =>
   obtain⟨a,b⟩:=Q8 (n:=n) (by simpa using h)
   refine⟨by omega,?_⟩
   rw[b,Nat.succ_mul];congr 2;omega
theorem KU{sz:Nat}{cs:List V}:∀{n off:Nat},(chunks sz cs off n).length=n
 |0,off=>rfl
 |n+1,off=>by simp[chunks,KU]
theorem KV{X:Cx}{sh:Sh}{cs:List V}{c:Array Value}(ei:∀(j:Nat) (v:V),cs[j]?=some v→∃y,c[j]?=some y∧aZ X v y){off n:Nat}(hle:off+n*sh.length≤cs.length)
  {ys:List (List V)} (h:kr sh (chunks sh.length cs off n)=some ys):ys.length=n∧jz X.h X.g.m sh.length ys ((c.toList.drop off).take (n*sh.length)):=by
 obtain⟨h1,h2⟩:=KT h;rw[KU]at h1;have hc:cs.length≤c.size:=by
  rcases Nat.lt_or_ge c.size cs.length with h|h
  ·obtain⟨y,hy,_⟩:=ei c.size cs[c.size] (List.getElem?_eq_getElem h)
   simp at hy
  ·exact h
 refine⟨h1,by simp[h1];omega,fun i row hr=>?_,fun i row j v hr hj=>?_⟩
 ·obtain⟨r,uf,nL⟩:=h2 i row hr
  exact(Eo nL).1
 ·obtain⟨r,uf,nL⟩:=h2 i row hr
  obtain⟨z,s,hz,uR⟩:=Hw nL j v hj;obtain⟨hi,rfl⟩:=Q8 uf;have pQ:=eK hj;rw[(Eo nL).1]at pQ;simp only[List.getElem?_take,List.getElem?_drop,pQ,if_true]at hz;obtain⟨y,hy,hx⟩:=ei _ z hz;obtain⟨p,q⟩:=En uR hx;refine⟨p,y,?_,q⟩;have:=KS hi pQ;rw[List.getElem?_take,if_pos this,List.getElem?_drop,← Nat.add_assoc];simpa using hy
theorem Ep(hR:R E g S a w){sh:Sh}{v:V}{x:Value}(hr:aZ (S.cx g w) v x){ys:List (List V)}(h:S.rows sh v=some ys):Hu w.heap g.m sh.length ys x:=by
 unfold St.rows at h;split at h
 ·cases h;exact .inl ⟨rfl,none,0,nG hr⟩
 ·rename_i tk n es
  cases hn:n==sh.length with
  |false=>simp[hn]at h
  |true =>
   simp only[hn,cond_true,Option.some.injEq]at h;have:=eq_of_beq hn;subst this;subst h;cases hr with
   |plain h _=>exact Q7 h
 ·cases h
  rcases sJ hr with e | ⟨a,e⟩
  ·exact .inl ⟨rfl,none,0,e⟩
  ·exact .inl ⟨rfl,some a,0,e⟩
 ·cases h
  obtain⟨a,cap,e⟩:=Eg hr;exact .inl ⟨rfl,some a,cap,e⟩
 ·cases h
theorem Hx(hR:R E g S a w){sh:Sh}{v:V}{x:Value}(hr:aZ (S.cx g w) v x){ys:List (List V)}(h:S.sH sh v=some ys):∃id n,v=.bQ id sh.length n∧ys.length=n∧(n=0∧la x∨∃cap,n≤cap∧x=.slice (some ⟨g.κ id,0,none⟩) n cap ∧
  ∃c e,w.heap[g.κ id]?=some (.cells c e (0,0))∧n*sh.length≤c.size∧jz w.heap g.m sh.length ys (c.toList.take (n*sh.length))∧g.ow (g.κ id)=.obj id∧E.w0.heap.size≤g.κ id∧g.m (g.κ id)=0):=by
 unfold St.sH at h;split at h
 ·rename_i id off n
  split at h
  ·rename_i cs ho
   cases hle:((off==sh.length)&&Nat.blt 0 sh.length&&Nat.ble (n*sh.length) cs.length) with
   |false=>simp[hle]at h
   |true =>
    simp only[hle,cond_true]at h;simp only[Bool.and_eq_true,beq_iff_eq]at hle;obtain⟨⟨rfl,gM⟩,hle⟩:=hle;have gM:0<sh.length:=by simpa [Nat.blt_eq] using gM
    have hle:=Nat.le_of_ble_eq_true hle;rcases (pO hr).symm with⟨h0,hz,_⟩ | ⟨cap,eA,fC,hx⟩
    ·subst h0
     refine⟨id,0,rfl,?_,.inl ⟨rfl,hz⟩⟩;simp only[chunks,kr,Option.some.injEq]at h;subst h;rfl
    rcases hR.aU id _ ho with⟨h0,uS⟩ | ⟨cA,gf,hm,c,e,hh,_,hj⟩
    ·subst h0
     have fC:cap*sh.length=0:=fC.trans uS;have vV:cap=0:=by rcases Nat.mul_eq_zero.1 fC with h|h<;>omega
     subst vV;obtain rfl:n=0:=by omega
     refine⟨id,0,rfl,?_,.inl ⟨rfl,.inr ⟨_,hx⟩⟩⟩;simp only[chunks,kr,Option.some.injEq]at h;subst h;rfl
    obtain⟨h1,h2⟩:=KV (X:=S.cx g w) (c:=c) (off:=0) (fun j v hv=>(hj j v hv).2) (by omega) h
    refine⟨id,n,rfl,h1,.inr ⟨cap,eA,hx,c,e,hh,?_,by have:=h2;simp only[List.drop_zero]at this;exact this,cA,gf,hm⟩⟩
    have:=h2.len;simp at this;rw[h1]at this;rcases Nat.lt_or_ge c.size (n*sh.length) with h3|h3
    ·rcases Nat.eq_zero_or_pos (n*sh.length) with h4|h4
     ·have hc:cs.length≤c.size:=by
       rcases Nat.lt_or_ge c.size cs.length with h|h
       ·obtain⟨_,y,hy,_⟩:=hj c.size cs[c.size] (List.getElem?_eq_getElem h)
        simp at hy
       ·exact h
      omega
     ·omega
    ·exact h3
  ·cases h
 ·cases h
theorem R.KW(hR:R E g S a w){f:Nat}{c:Array Value}{e:TypeId}(hw:w'.heap=w.heap.push (.cells c e (0,0)))(h1:w'.os=w.os)(h2:w'.tape=w.tape)(h3:w'.output=w.output)
  {n:Nat} {ys:List (List V)} {l:List Value} (gM:0<ys.length) (hf:S.eG f∨∃k,look f S.bg=some k∧k<ys.length)
  (hl:jz w.heap g.m n ys l) (hc:∀(j:Nat) (y:Value),l[j]?=some y→c[j]?=some y) {cap:Nat} (eA:ys.length≤cap) (eb:cap*n≤c.size) :
  ∃g',R E g' { S with bg:=(f,ys.length)::S.bg } a w' ∧
   aZ (({ S with bg:=(f,ys.length)::S.bg }:St).cx g' w') (.slice (some f) n ys) (.slice (some ⟨w.heap.size,0,none⟩) ys.length cap):=by
 let g':Gh:={ g with m:=cS g.m w.heap.size (ys.length*n),τ:=cS g.τ f (some w.heap.size),ow:=cS g.ow w.heap.size (.tok f) }
 have t:Touch E g S w g' ((f,ys.length)::S.bg) S.aF.length w' w.heap.size none (some f):=Ek hR hw h1 h2 h3 (fun b hb=>fR _ _ hb) (fun b hb=>fR _ _ hb)
  (fun i _=>rfl) (fun i _=>rfl) (fun i hi=>fR _ _ (fun e=>hi (by rw[e]))) (fun i hi=>by rw[dA,if_neg (fun e=>hi (by rw[e]))]) (fun i _=>rfl) (Nat.le_refl _) (fun i a b=>absurd a (by omega)) (fun i e=>by(have e:cS g.ow w.heap.size (.tok f) w.heap.size=.aF i:=e);rw[dG]at e;cases e)
 have lg:∀i,iU (S.cx g w) ⟨w'.heap,g',S.aF.length,(f,ys.length)::S.bg⟩ i∨S.eG i:=fun i=>by
  by_cases hi:f=i
  ·subst hi
   rcases hf with hf | ⟨k,hk,bA⟩
   ·exact .inr hf
   ·refine .inl ⟨rfl,rfl,fun k' j9=>⟨k,hk,?_,fun e=>?_⟩⟩
    ·simp only[dA,if_true,Option.some.injEq]at j9;omega
    ·simp only[dA,if_true,Option.some.injEq]at j9;omega
  ·exact .inl (t.keeps hR (fun e=>by cases e) (fun e=>hi (by cases e;rfl)) (fun h=>absurd h (Nat.lt_irrefl _)))
 have lK:=Em hw;refine⟨g',R.nK t hR rfl rfl lg (fun s v hs=>.inl hs) (fun i cs ho=>.inl ⟨ho,(fun e=>by cases e),fun h=>absurd h (Nat.lt_irrefl _)⟩) (fun i k b hi hb=>?_)
  (fun i o ho=>.inl ⟨ho,fun h=>absurd h (Nat.lt_irrefl _)⟩),?_⟩
 ·by_cases hif:f=i
  ·subst hif
   have nf:cS g.τ f (some w.heap.size) f=some b:=hb;rw[dG]at nf;cases nf;exact .inr ⟨dG _ _ _,.inl hR.same.size,by rw[hw];simp⟩
  ·exact .inl ⟨(fun e=>hif (by cases e;rfl)),fun h=>absurd h (Nat.lt_irrefl _)⟩
 ·have hm:g'.m w.heap.size=ys.length*n:=dG _ _ _
  refine .plain (AG (m:=g'.m) (l:=l) ?_ (by show _<w'.heap.size;rw[hw];simp) eA (fun j y hj=>?_) (by omega) _) (fun i n' oB he k hk=>?_)
  ·exact hl.mono t.le
  ·show cellAt w'.heap _ _=_
   rw[kZ lK,Nat.zero_add];exact hc j y hj
  ·cases he
   simp only[St.cx,dA,if_true,Option.some.injEq]at hk;subst hk;exact⟨Nat.le_refl _,fun _=>.inr ⟨w.heap.size,0,cap,c,e,dG _ _ _,rfl,by show g'.m _=_;rw[hm];omega,lK,by omega,rfl,gM⟩⟩
theorem R.Hy(hR:R E g S a w){f:Nat}(hf:S.eG f):∃g',R E g' { S with bg:=(f,0)::S.bg } a w ∧
  (∀n x,la x→aZ (({ S with bg:=(f,0)::S.bg }:St).cx g' w) (.slice (some f) n []) x)∧∀v x,aZ (S.cx g w) v x→v.cj f=false→aZ (({ S with bg:=(f,0)::S.bg }:St).cx g' w) v x:=by
 let g':Gh:={ g with τ:=cS g.τ f none }
 have t:Touch E g S w g' ((f,0)::S.bg) S.aF.length w w.heap.size none (some f) :=
  {os:=rfl,tape:=rfl,output:=rfl,size:=Nat.le_refl _,heap:=fun _ _ _=>rfl,m:=fun _ _=>rfl,ow:=fun _ _=>rfl,κ:=fun _ _=>rfl,cp:=fun _ _=>rfl,
   τ:=fun i hi=>fR _ _ (fun e=>hi (by rw[e])),T:=fun i hi=>by rw[dA,if_neg (fun e=>hi (by rw[e]))],γ:=fun _ _=>rfl,eN:=Nat.le_refl _,
   γnew:=fun i a b=>absurd a (by omega),fresh:=.inl hR.same.size,ib:=fun _ _ h _=>absurd hR.same.size (Nat.not_le_of_lt h),lv:=fun i h=>hR.Cd h (Nat.le_refl _),jK:=fun _ _ _ hy=>hy,oV:=fun h=>absurd h (Nat.lt_irrefl _) }
 have Q9:∀i,iU (S.cx g w) ⟨w.heap,g',S.aF.length,(f,0)::S.bg⟩ i∨i=f:=fun i=>by
  by_cases hi:f=i
  ·exact .inr hi.symm
  ·exact .inl (t.keeps hR (fun e=>by cases e) (fun e=>hi (by cases e;rfl)) (fun h=>absurd h (Nat.lt_irrefl _)))
 refine⟨g',R.nK t hR rfl rfl (fun i=>(Q9 i).imp (fun z=>z) fun e=>by rw[e];exact hf) (fun s v hs=>.inl hs) (fun i cs ho=>.inl ⟨ho,(fun e=>by cases e),fun h=>absurd h (Nat.lt_irrefl _)⟩) (fun i k b hi hb=>?_)
  (fun i o ho=>.inl ⟨ho,fun h=>absurd h (Nat.lt_irrefl _)⟩),fun n x hz=>?_,fun v x hx hm=>hx.mono t.le fun i=>(Q9 i).imp (fun z=>z) fun e=>by rw[e];exact hm⟩
 ·by_cases hif:f=i
  ·subst hif
   have nf:cS g.τ f none f=some b:=hb;rw[dG]at nf;cases nf
  ·exact .inl ⟨(fun e=>hif (by cases e;rfl)),fun h=>absurd h (Nat.lt_irrefl _)⟩
 ·refine .plain (by rcases hz with rfl | ⟨a,rfl⟩<;>first|exact .nil _ _|exact .empty _ _ a 0) (fun i n' oB he k hk=>?_)
  cases he;simp only[St.cx,dA,if_true,Option.some.injEq]at hk;subst hk;exact⟨Nat.le_refl _,fun _=>.inl ⟨rfl,hz⟩⟩
theorem R.again(hR:R E g S a w){f k:Nat}(hf:look f S.bg=some k):R E g { S with bg:=(f,k)::S.bg } a w∧∀v x,aZ (S.cx g w) v x→aZ (({ S with bg:=(f,k)::S.bg }:St).cx g w) v x:=by
 have hl:∀i,look i ((f,k)::S.bg)=look i S.bg:=fun i=>by
  rw[dA];by_cases h:f=i
  ·subst h;rw[if_pos rfl,hf]
  ·rw[if_neg h]
 have hk:∀i,iU (S.cx g w) (({ S with bg:=(f,k)::S.bg }:St).cx g w) i:=fun i=>⟨rfl,rfl,fun k' h=>⟨k',(hl i).symm.trans h,Nat.le_refl _,fun _=>⟨rfl,fun _ _=>⟨rfl,fun c _ h=>⟨c,h,rfl⟩⟩⟩⟩⟩;have le:Le (S.cx g w) (({ S with bg:=(f,k)::S.bg }:St).cx g w):=⟨Nat.le_refl _,fun _ _ _ _ h=>h,fun _ _=>Nat.le_refl _,Nat.le_refl _,fun _ _=>rfl⟩;refine⟨⟨fun s v hs=>?_,fun id cs ho=>?_,fun f' k' b KX hb=>?_,hR.aF,hR.defers,hR.jh,hR.same⟩,fun v x hx=>hx.mono le fun i=>.inl (hk i)⟩
 ·obtain⟨x,h1,h2⟩:=hR.env s v hs
  exact⟨x,h1,h2.mono le fun i=>.inl (hk i)⟩
 ·rcases hR.aU id cs ho with h0 | ⟨h1,h2,h3,c,e,h4,fC,h5⟩
  ·exact .inl h0
  refine .inr ⟨h1,h2,h3,c,e,h4,fC,fun j v hj=>?_⟩;obtain⟨h6,y,h7,h8⟩:=h5 j v hj;exact⟨h6,y,h7,h8.mono le fun i=>.inl (hk i)⟩
 ·exact hR.bg f' k' b (by rw[←hl f'];exact KX) hb
theorem R.acG(hR:R E g S a w){f b:Nat}{k:Nat}(hk:look f S.bg=some k)(hτ:g.τ f=some b){c:Array Value}{e:TypeId}(hb:w.heap[b]?=some (.cells c e (0,0)))
  {off n cap:Nat} (hm:g.m b=off+k*n) (iW:off=0) {es ys:List (List V)} {l0 l:List Value} (lL:es.length=k) (hy:ys≠[]) (eA:(k+ys.length)≤cap) (fQ:off+cap*n≤c.size)
  (h0:jz w.heap g.m n es l0) (vV:∀(j:Nat) (y:Value),l0[j]?=some y→cellAt w.heap b (off+j)=some y) (hl:jz w.heap g.m n ys l)
  {c':Array Value} (vT:c'=(c.toList.take (off+k*n)++l++c.toList.drop (off+k*n+l.length)).toArray) :
  ∃g',R E g' { S with bg:=(f,k+ys.length)::S.bg } a (w.setRow b c') ∧
   aZ (({ S with bg:=(f,k+ys.length)::S.bg }:St).cx g' (w.setRow b c')) (.slice (some f) n (es++ys)) (.slice (some ⟨b,off,none⟩) (k+ys.length) cap):=by
 obtain⟨cA,gf,Rb⟩:=hR.bg f k b hk hτ;have ky:=hl.len;have h1:(k+ys.length)*n≤cap*n:=Nat.mul_le_mul_right n eA;rw[Nat.add_mul]at h1;have eb:c'.size=c.size:=by rw[vT];simp;omega
 have lK:(w.setRow b c').heap[b]?=some (.cells c' e (0,0)):=setRow_heap w b c c' e _ hb;have acH:∀i,i≠b→(w.setRow b c').heap[i]?=w.heap[i]?:=fun i hi=>by
  simp only[World.setRow,Array.getElem?_modify];rw[if_neg (by omega)]
 have hold:∀j,j<off+k*n→c'[j]?=c[j]?:=fun j hj=>by
  rw[vT];simp only[List.getElem?_toArray,List.append_assoc];rw[List.getElem?_append_left (by simp;omega)]
  simp[hj]
 have acI:∀(j:Nat) (y:Value),l[j]?=some y→c'[off+k*n+j]?=some y:=fun j y hj=>by
  have:=eK hj;rw[vT];simp only[List.getElem?_toArray,List.append_assoc];rw[List.getElem?_append_right (by simp;omega),List.getElem?_append_left (by simp;omega),← hj]
  congr 1;simp;omega
 let g':Gh:={ g with m:=cS g.m b (off+(k+ys.length)*n) }
 have wY:g'.m b=off+(k+ys.length)*n:=dG _ _ _;have t:Touch E g S w g' ((f,k+ys.length)::S.bg) S.aF.length (w.setRow b c') b none (some f) :=
  {os:=rfl,tape:=rfl,output:=rfl,size:=by simp,heap:=fun i hi _=>acH i hi,m:=fun i hi=>fR _ _ hi,ow:=fun _ _=>rfl,κ:=fun _ _=>rfl,cp:=fun _ _=>rfl,
   τ:=fun i hi=>rfl,T:=fun i hi=>by rw[dA,if_neg (fun e=>hi (by rw[e]))],γ:=fun _ _=>rfl,eN:=Nat.le_refl _,
   γnew:=fun i a b=>absurd a (by omega),fresh:=gf.imp (fun z=>z) .inr,ib:=fun p q _ e=>by(have e:g.ow b=.cell p q:=e);rw[cA]at e;exact absurd e (fun e=>nomatch e),
   lv:=fun i e=>by(have e:g.ow b=.aF i:=e);rw[cA]at e;exact absurd e (fun e=>nomatch e)
   jK:=fun o y ho hy=>by
    rw[kZ hb]at hy;rw[kZ lK,hold o (by omega)]
    exact hy
   oV:=fun _=>by rw[wY,hm,Nat.add_mul];omega }
 have aqp:0<ys.length:=List.length_pos_iff.2 hy;have lg:∀i,iU (S.cx g w) ⟨(w.setRow b c').heap,g',S.aF.length,(f,k+ys.length)::S.bg⟩ i:=fun i=>by
  by_cases hi:f=i
  ·subst hi
   refine⟨rfl,rfl,fun k' j9=>⟨k,hk,?_,fun e=>?_⟩⟩
   ·simp only[dA,if_true,Option.some.injEq]at j9;omega
   ·simp only[dA,if_true,Option.some.injEq]at j9;omega
  ·exact t.keeps hR (fun e=>by cases e) (fun e=>hi (by cases e;rfl)) (fun _ e=>hi (by rw[cA]at e;cases e;rfl))
 refine⟨g',R.nK t hR rfl rfl (fun i=>.inl (lg i)) (fun s v hs=>.inl hs) (fun i cs ho=>.inl ⟨ho,(fun e=>by cases e),fun _ e=>by rw[cA]at e;cases e⟩) (fun i k' b' hi nf=>?_)
  (fun i o ho=>.inl ⟨ho,fun _=>⟨fun e=>(by rw[cA]at e;cases e),fun _ e=>(by rw[cA]at e;cases e)⟩⟩),?_⟩
 ·by_cases hif:f=i
  ·subst hif
   have Re:g.τ f=some b':=nf;rw[hτ]at Re;cases Re;exact .inr ⟨cA,gf,by simpa using Rb⟩
  ·exact .inl ⟨(fun e=>hif (by cases e;rfl)),fun _ e=>hif (by rw[cA]at e;cases e;rfl)⟩
 ·have w8:=(h0.mono t.le).append (hl.mono t.le)
  have hlen:(es++ys).length=k+ys.length:=by simp[lL]
  rw[←hlen];refine .plain (AG (m:=g'.m) w8 (by show b<(w.setRow b c').heap.size;simpa using Rb) (by omega) (fun j y hj=>?_) (by rw[hlen];omega) _) (fun i n' oB he k' j9=>?_)
  ·show cellAt (w.setRow b c').heap b _=_
   rw[kZ lK];have h0l:=h0.len;rw[lL]at h0l;rw[List.getElem?_append]at hj;split at hj
   ·rename_i bA
    have h5:=vV j y hj;rw[kZ hb]at h5;rw[hold _ (by omega)]
    exact h5
   ·rename_i bA
    have h6:=acI _ y hj;rw[show off+j=off+k*n+(j-l0.length) from by omega]
    exact h6
  ·cases he
   simp only[St.cx,dA,if_true,Option.some.injEq]at j9;have oY:k'=k+ys.length:=by rw[←j9,hlen]
   subst oY;exact⟨by omega,fun _=>.inr ⟨b,off,cap,c',e,hτ,by rw[hlen],wY,lK,by omega,iW,by omega⟩⟩
end
end Go.Vm

/- The value machine, 2: how its values and its states stand to the model's. -/
import Derived.Orders
import Derived.Laws.Append
import Derived.Laws.Rows
import Derived.Test.YtocclbnghhaejaaGreatVm1
namespace Go.Vm
set_option linter.all false
def cellAt(h:Array Obj)(b o:Nat):Option Value :=
 match h[b]? with
 |some (.cells c _ _)=>c[o]?
 |_=>none
theorem cell?_eq(w:World)(b o:Nat):w.cell? ⟨b,o,none⟩=cellAt w.heap b o:=by
 simp[World.cell?,cellAt];rfl
theorem Cb{h:Array Obj}{b o:Nat}{y:Value}(hc:cellAt h b o=some y):b<h.size:=by
 unfold cellAt at hc;rcases Nat.lt_or_ge b h.size with h' | h'
 ·exact h'
 ·simp[Array.getElem?_eq_none h']at hc
theorem kZ{h:Array Obj}{b o:Nat}{c:Array Value}{e:TypeId}{fz:Nat×Nat}(hb:h[b]?=some (.cells c e fz)):cellAt h b o=c[o]?:=by
 simp[cellAt,hb]
theorem tE{h h':Array Obj}{b:Nat}(e:h'[b]?=h[b]?)(o:Nat):cellAt h' b o=cellAt h b o:=by
 simp[cellAt,e]
inductive fg (h:Array Obj) (m:Nat→Nat):V→Value→Prop
 |int (k n):fg h m (.int k n) (.int k n)
 |bool (b):fg h m (.bool b) (.bool b)
 |str (s:ByteArray):fg h m (.str s.data.toList) (.string s)
 |bV:fg h m .bV (.slice none 0 0)
 |nil (tok n):fg h m (.slice tok n []) (.slice none 0 0)
 |empty (tok n) (a:Addr) (cap:Nat):fg h m (.slice tok n []) (.slice (some a) 0 cap)
 |slice (tok:Option Nat) (n:Nat) (es:List (List V)) (b off cap:Nat) (ys:Nat→Nat→Value) (hb:b<h.size) (eA:es.length≤cap)
   (iM:∀(i:Nat) (row:List V),es[i]?=some row→row.length=n)
   (hc:∀(i:Nat) (row:List V) (j:Nat) (v:V),es[i]?=some row→row[j]?=some v→cellAt h b (off+i*n+j)=some (ys i j))
   (hv:∀(i:Nat) (row:List V) (j:Nat) (v:V),es[i]?=some row→row[j]?=some v→fg h m v (ys i j))
   (hp:∀(i:Nat) (row:List V) (j:Nat) (v:V),es[i]?=some row→row[j]?=some v→v.plain=true)
   (hm:off+es.length*n≤m b):fg h m (.slice tok n es) (.slice (some ⟨b,off,none⟩) es.length cap)
inductive Ow where
 |none
 |obj (id:Nat)
 |tok (f:Nat)
 |aF (i:Nat)
 |cell (b j:Nat)
 deriving DecidableEq
structure Gh where
 m:Nat→Nat
 κ:Nat→Nat
 cp:Nat→Nat
 τ:Nat→Option Nat
 γ:Nat→Nat
 ow:Nat→Ow
structure Cx where
 h:Array Obj
 g:Gh
 N:Nat
 T:List (Nat×Nat)
def la(x:Value):Prop:=x=.slice none 0 0∨∃a,x=.slice (some a) 0 0
def wX(X:Cx)(f n k:Nat)(x:Value):Prop :=
 (k=0∧la x)∨∃b off cap c e,X.g.τ f=some b∧x=.slice (some ⟨b,off,none⟩) k cap∧X.g.m b=off+k*n ∧
  X.h[b]?=some (.cells c e (0,0))∧off+cap*n≤c.size∧off=0∧0<k
def QU(X:Cx)(v:V)(x:Value):Prop :=
 ∀f n es,v=.slice (some f) n es→∀k,look f X.T=some k→es.length≤k∧(k=es.length→wX X f n k x)
inductive aZ (X:Cx):V→Value→Prop
 |undef:aZ X .undef Go.undef
 |plain {v x} (h:fg X.h X.g.m v x) (ht:QU X v x):aZ X v x
 |fm {n es x} (h:fg X.h X.g.m (.slice none n es) x):aZ X (.fm n es) x
 |dR {n x} (h:la x):aZ X (.dR n) x
 |fu (n a cap):aZ X (.fu n) (.slice (some a) 0 cap)
 |bf (id off):aZ X (.bf id off) (.pointer (some ⟨X.g.κ id,off,none⟩))
 |bQ (id s len cap) (h:len≤cap) (hc:cap*s=X.g.cp id):aZ X (.bQ id s len) (.slice (some ⟨X.g.κ id,0,none⟩) len cap)
 |pM (id s) {x} (h:la x) (hc:X.g.cp id=0):aZ X (.bQ id s 0) x
 |fh (id s off len cap) (h:len≤cap):aZ X (.fh id s off len) (.slice (some ⟨X.g.κ id,off*s,none⟩) len cap)
 |dh (i s len cap) (h:i<X.N) (hl:len≤cap):aZ X (.dh i s len) (.slice (some ⟨X.g.γ i,0,none⟩) len cap)
 |uN (i s) {x} (h:i<X.N) (hz:la x):aZ X (.dh i s 0) x
 |bG (i off) (h:i<X.N):aZ X (.bG i off) (.pointer (some ⟨X.g.γ i,off,none⟩))
 |fY:aZ X .fY (.pointer none)
 |eR (row:List V) (off b o:Nat) (ys:Nat→Value) (hb:b<X.h.size) (hc:∀(j:Nat) (v:V),row[j]?=some v→cellAt X.h b (o+j)=some (ys j))
   (hv:∀(j:Nat) (v:V),row[j]?=some v→fg X.h X.g.m v (ys j)) (hp:∀(j:Nat) (v:V),row[j]?=some v→v.plain=true) (hm:o+row.length≤X.g.m b):aZ X (.eR row off) (.pointer (some ⟨b,o+off,none⟩))
 |fn (f:FuncId) (cap:List V) (xs:Array Value) (hl:cap.length=xs.size) (hx:∀(j:Nat) (v:V),cap[j]?=some v→∃i o,v=.bG i o∧i<X.N∧xs[j]?=some (.pointer (some ⟨X.g.γ i,o,none⟩))) :
   aZ X (.fn f cap) (.func (.func f) #[] xs)
 |fZ:aZ X .fZ .nilFunc
 |map (i) (h:i<X.N):aZ X (.map i) (.map (some (X.g.γ i)))
 |gd:aZ X .gd (.map none)
 |agg (cs:List V) (xs:Array Value) (hl:cs.length=xs.size) (hx:∀(i:Nat) (v:V) (x:Value),cs[i]?=some v→xs[i]?=some x→aZ X v x):aZ X (.agg cs) (.agg xs)
 |tuple (cs:List V) (xs:Array Value) (hl:cs.length=xs.size) (hx:∀(i:Nat) (v:V) (x:Value),cs[i]?=some v→xs[i]?=some x→aZ X v x):aZ X (.tuple cs) (.tuple xs)
structure Le(X X':Cx):Prop where
 size:X.h.size≤X'.h.size
 cells:∀b o y,o<X.g.m b→cellAt X.h b o=some y→cellAt X'.h b o=some y
 m:∀b,b<X.h.size→X.g.m b≤X'.g.m b
 eN:X.N≤X'.N
 γ:∀i,i<X.N→X'.g.γ i=X.g.γ i
theorem fg.mono{X X':Cx}(le:Le X X'){v:V}{x:Value}(h:fg X.h X.g.m v x):fg X'.h X'.g.m v x:=by
 induction h with
 |int k n=>exact .int k n
 |bool b=>exact .bool b
 |str s=>exact .str s
 |bV=>exact .bV
 |nil t n=>exact .nil t n
 |empty t n a cap=>exact .empty t n a cap
 |slice tok n es b off cap ys hb eA iM hc hv hp hm ih =>
  have wY:=le.m b hb;refine .slice tok n es b off cap ys (Nat.lt_of_lt_of_le hb le.size) eA iM (fun i row j v hr hj=>?_) ih hp (by omega)
  refine le.cells _ _ _ ?_ (hc i row j v hr hj);have h1:i<es.length:=by
   rcases Nat.lt_or_ge i es.length with h' | h'
   ·exact h'
   ·simp[List.getElem?_eq_none h']at hr
  have h2:j<row.length:=by
   rcases Nat.lt_or_ge j row.length with h' | h'
   ·exact h'
   ·simp[List.getElem?_eq_none h']at hj
  have h3:=iM i row hr;have h4:i*n+n≤es.length*n:=by
   have:=Nat.mul_le_mul_right n h1;rw[Nat.succ_mul]at this;exact this
  omega
structure iU(X X':Cx)(d:Nat):Prop where
 κ:X'.g.κ d=X.g.κ d
 cp:X'.g.cp d=X.g.cp d
 tok:∀k',look d X'.T=some k'→∃k,look d X.T=some k∧k≤k'∧(k'=k→X'.g.τ d=X.g.τ d∧∀b,X.g.τ d=some b →
  X'.g.m b=X.g.m b∧∀c e,X.h[b]?=some (.cells c e (0,0))→∃c',X'.h[b]?=some (.cells c' e (0,0))∧c'.size=c.size)
theorem iU.refl(X:Cx)(d:Nat):iU X X d:=⟨rfl,rfl,fun k h=>⟨k,h,Nat.le_refl _,fun _=>⟨rfl,fun _ _=>⟨rfl,fun c _ h=>⟨c,h,rfl⟩⟩⟩⟩⟩
theorem sI{d:Nat}{v:V}(h:v.cD d=false):v.cj d=false:=by
 cases v<;>simp_all[V.cj,V.dz,V.cD]
theorem QV{d:Nat}{cs:List V}(h:(V.agg cs).cj d=false){v:V}(hv:v∈cs):v.cj d=false:=by
 simp only[V.cj,V.dz,List.any_eq_false]at h;exact sI (by simpa using h v hv)
theorem uO{d:Nat}{v:V}(h:v.dz d=false):v.cj d=false:=by
 cases v with
 |tuple vs=>simp[V.dz,V.cD]at h
 |_=>simpa [V.cj] using h
theorem QW{d:Nat}{cs:List V}(h:(V.tuple cs).cj d=false){v:V}(hv:v∈cs):v.cj d=false:=by
 simp only[V.cj,List.any_eq_false]at h;exact uO (by simpa using h v hv)
theorem wX.mono{X X':Cx}{f n k:Nat}{x:Value}(hτ:X'.g.τ f=X.g.τ f)
  (hb:∀b,X.g.τ f=some b→X'.g.m b=X.g.m b∧∀c e,X.h[b]?=some (.cells c e (0,0))→∃c',X'.h[b]?=some (.cells c' e (0,0))∧c'.size=c.size)
  (h:wX X f n k x):wX X' f n k x:=by
 rcases h with h | ⟨b,off,cap,c,e,h1,h2,h3,h4,h5⟩
 ·exact .inl h
 ·obtain⟨hm,hc⟩:=hb b h1
  obtain⟨c',h6,h7⟩:=hc c e h4;exact .inr ⟨b,off,cap,c',e,by rw[hτ,h1],h2,by omega,h6,by omega,h5.2⟩
theorem aZ.mono{X X':Cx}(le:Le X X'){v:V}{x:Value}(h:aZ X v x)(keep:∀d,iU X X' d∨v.cj d=false):aZ X' v x:=by
 induction h with
 |undef=>exact .undef
 |plain hv ht =>
  refine .plain (hv.mono le) (fun f n es KO k hk=>?_);subst KO;rcases keep f with kp|kp
  ·obtain⟨k0,h0,hle,ab4⟩:=kp.tok k hk
   obtain⟨h1,h2⟩:=ht f n es rfl k0 h0;refine⟨Nat.le_trans h1 hle,fun hke=>?_⟩;have:k0=k:=by omega
   subst this;obtain⟨a,b⟩:=ab4 rfl;exact(h2 hke).mono a b
  ·simp[V.cj,V.dz,V.cD]at kp
 |fm h=>exact .fm (h.mono le)
 |dR h=>exact .dR h
 |fu n a cap=>exact .fu n a cap
 |bf id off =>
  rcases keep id with kp|kp
  ·rw[←kp.κ];exact .bf id off
  ·simp[V.cj,V.dz,V.cD]at kp
 |bQ id off len cap h hc =>
  rcases keep id with kp|kp
  ·rw[←kp.κ];exact .bQ id off len cap h (hc.trans kp.cp.symm)
  ·simp[V.cj,V.dz,V.cD]at kp
 |pM id s h hc =>
  rcases keep id with kp|kp
  ·exact .pM id s h (kp.cp.trans hc)
  ·simp[V.cj,V.dz,V.cD]at kp
 |fh id s off len cap h =>
  rcases keep id with kp|kp
  ·rw[←kp.κ];exact .fh id s off len cap h
  ·simp[V.cj,V.dz,V.cD]at kp
 |dh i s len cap h hl=>rw[←le.γ i h];exact .dh i s len cap (Nat.lt_of_lt_of_le h le.eN) hl
 |uN i s h hz=>exact .uN i s (Nat.lt_of_lt_of_le h le.eN) hz
 |bG i off h=>rw[←le.γ i h];exact .bG i off (Nat.lt_of_lt_of_le h le.eN)
 |fY=>exact .fY
 |eR row off b o ys hb hc hv hp hm =>
  refine .eR row off b o ys (Nat.lt_of_lt_of_le hb le.size) (fun j v hj=>le.cells _ _ _ ?_ (hc j v hj)) (fun j v hj=>(hv j v hj).mono le) hp (Nat.le_trans hm (le.m b hb));have:j<row.length:=by
   rcases Nat.lt_or_ge j row.length with h' | h'
   ·exact h'
   ·simp[List.getElem?_eq_none h']at hj
  omega
 |fn f cap xs hl hx =>
  refine .fn f cap xs hl (fun j v hj=>?_);obtain⟨i,o,h1,h2,h3⟩:=hx j v hj;exact⟨i,o,h1,Nat.lt_of_lt_of_le h2 le.eN,by rw[le.γ i h2];exact h3⟩
 |fZ=>exact .fZ
 |map i h=>rw[←le.γ i h];exact .map i (Nat.lt_of_lt_of_le h le.eN)
 |gd=>exact .gd
 |agg cs xs hl hx ih=>exact .agg cs xs hl (fun i v x hv lJ=>ih i v x hv lJ (fun d=>(keep d).imp id (fun hm=>QV hm (List.mem_of_getElem? hv))))
 |tuple cs xs hl hx ih=>exact .tuple cs xs hl (fun i v x hv lJ=>ih i v x hv lJ (fun d=>(keep d).imp id (fun hm=>QW hm (List.mem_of_getElem? hv))))
def St.cx(S:St)(g:Gh)(w:World):Cx:=⟨w.heap,g,S.aF.length,S.bg⟩
def Ef(h:Array Obj)(g:Gh)(N b:Nat):aP→Prop
 |.cells cs=>g.m b=0∧∃c e,h[b]?=some (.cells c e (0,0))∧cs.length≤c.size∧∀(j:Nat) (v:V) (y:Value),cs[j]?=some v→c[j]?=some y→v.cI=true∧(∀d,v.cj d=false)∧aZ ⟨h,g,N,[]⟩ v y
 |.map es=>g.m b=0∧∃c k,h[b]?=some (.map c k)∧es.length=c.size∧∀(j:Nat) (p:V×V) (y:MapEntry),es[j]?=some p→c[j]?=some y →
   (∀d,p.1.cj d=false)∧(∀d,p.2.dz d=false)∧aZ ⟨h,g,N,[]⟩ p.1 y.key∧aZ ⟨h,g,N,[]⟩ p.2 y.val
def End(h:Array Obj)(g:Gh)(b j n k:Nat)(x:Value):Prop :=
 (k=0∧la x)∨∃q cap c e,x=.slice (some ⟨q,0,none⟩) k cap∧g.ow q=.cell b j∧g.m q=k*n∧h[q]?=some (.cells c e (0,0))∧cap*n≤c.size∧0<k
def AA(h:Array Obj)(g:Gh)(b:Nat):aP→Prop
 |.cells cs=>∀(j n:Nat) (es:List (List V)) (y:Value),cs[j]?=some (.fm n es)→cellAt h b j=some y→End h g b j n es.length y
 |.map _=>True
structure rn(h:Array Obj)(g:Gh)(G:List aP):Prop where
 obj:∀i o,G[i]?=some o→o=.cells []∨g.ow (g.γ i)=.aF i∧Ef h g G.length (g.γ i) o
 own:∀i o,G[i]?=some o→AA h g (g.γ i) o
 z:∀b i,g.ow b=.aF i→g.m b=0∧i<G.length
structure Entry where
 w0:World
 g0:Gh
 N0:Nat
 nt:Nat
 ds:List Deferred:=[]
def Entry.own(E:Entry)(b:Nat):Prop:=∃p q,E.g0.ow b=.cell p q
structure QX(E:Entry)(g:Gh)(N:Nat)(w:World):Prop where
 os:w.os=E.w0.os
 tape:w.tape=E.w0.tape
 output:w.output=E.w0.output
 size:E.w0.heap.size≤w.heap.size
 eN:E.N0≤N
 γ:∀i,i<E.N0→g.γ i=E.g0.γ i
 γnew:∀i,E.N0≤i→i<N→E.w0.heap.size≤g.γ i
 my:∀b,b<E.w0.heap.size→(∀i,i<E.N0→E.g0.ow b≠.aF i)→¬ E.own b→w.heap[b]?=E.w0.heap[b]?∧g.m b=E.g0.m b
 grow:∀b,b<E.w0.heap.size→E.own b→(∀o y,o<E.g0.m b→cellAt E.w0.heap b o=some y→cellAt w.heap b o=some y)∧E.g0.m b≤g.m b
 ib:∀b p q,b<E.w0.heap.size→g.ow b=.cell p q→E.own b
 lv:∀b i,g.ow b=.aF i→b<E.w0.heap.size→E.g0.ow b=.aF i∧i<E.N0
structure R(E:Entry)(g:Gh)(S:St)(a:Act)(w:World):Prop where
 env:∀s v,look s S.env=some v→∃x,a.tmps[s]?=some x∧aZ (S.cx g w) v x
 aU:∀id cs,look id S.aU=some cs→(cs=[]∧g.cp id=0)∨g.ow (g.κ id)=.obj id∧E.w0.heap.size≤g.κ id∧g.m (g.κ id)=0 ∧
  ∃c e,w.heap[g.κ id]?=some (.cells c e (0,0))∧g.cp id≤c.size∧∀(j:Nat) (v:V),cs[j]?=some v→v.cI=true∧∃y,c[j]?=some y∧aZ (S.cx g w) v y
 bg:∀f k b,look f S.bg=some k→g.τ f=some b→g.ow b=.tok f∧(E.w0.heap.size≤b∨E.own b)∧b<w.heap.size
 aF:rn w.heap g S.aF
 defers:a.defers=E.ds
 jh:a.tmps.size=E.nt
 same:QX E g S.aF.length w
end Go.Vm

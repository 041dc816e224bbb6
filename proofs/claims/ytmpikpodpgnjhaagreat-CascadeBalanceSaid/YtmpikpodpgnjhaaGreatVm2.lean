/- The value machine, 2: how its values and its states stand to the model's. -/
import Derived.Orders
import Derived.Laws.Append
import Derived.Laws.Rows
import Derived.Test.YtmpikpodpgnjhaaGreatVm1
namespace Go.Vm
set_option linter.all false
def cellAt(h:Array Obj)(b o:Nat):Option Value :=
 match h[b]? with
 |some (.cells c _ _)=>c[o]?
 |_=>none
theorem cell?_eq(w:World)(b o:Nat):w.cell? ⟨b,o,none⟩=cellAt w.heap b o:=by
 simp[World.cell?,cellAt];rfl
theorem z6{h:Array Obj}{b o:Nat}{y:Value}(hc:cellAt h b o=some y):b<h.size:=by
 unfold cellAt at hc;rcases Nat.lt_or_ge b h.size with h' | h'
 ·exact h'
 ·simp[Array.getElem?_eq_none h']at hc
theorem lg{h:Array Obj}{b o:Nat}{c:Array Value}{e:TypeId}{fz:Nat×Nat}(hb:h[b]?=some (.cells c e fz)):cellAt h b o=c[o]?:=by
 simp[cellAt,hb]
theorem rW{h h':Array Obj}{b:Nat}(e:h'[b]?=h[b]?)(o:Nat):cellAt h' b o=cellAt h b o:=by
 simp[cellAt,e]
inductive fp (h:Array Obj) (m:Nat→Nat):V→Value→Prop
 |int (k n):fp h m (.int k n) (.int k n)
 |bool (b):fp h m (.bool b) (.bool b)
 |str (s:ByteArray):fp h m (.str s.data.toList) (.string s)
 |aK:fp h m .aK (.slice none 0 0)
 |nil (tok n):fp h m (.slice tok n []) (.slice none 0 0)
 |empty (tok n) (a:Addr) (cap:Nat):fp h m (.slice tok n []) (.slice (some a) 0 cap)
 |slice (tok:Option Nat) (n:Nat) (es:List (List V)) (b off cap:Nat) (ys:Nat→Nat→Value) (hb:b<h.size) (eP:es.length≤cap)
   (iI:∀(i:Nat) (row:List V),es[i]?=some row→row.length=n)
   (hc:∀(i:Nat) (row:List V) (j:Nat) (v:V),es[i]?=some row→row[j]?=some v→cellAt h b (off+i*n+j)=some (ys i j))
   (hv:∀(i:Nat) (row:List V) (j:Nat) (v:V),es[i]?=some row→row[j]?=some v→fp h m v (ys i j))
   (hp:∀(i:Nat) (row:List V) (j:Nat) (v:V),es[i]?=some row→row[j]?=some v→v.plain=true)
   (hm:off+es.length*n≤m b):fp h m (.slice tok n es) (.slice (some ⟨b,off,none⟩) es.length cap)
inductive Ow where
 |none
 |obj (id:Nat)
 |tok (f:Nat)
 |az (i:Nat)
 |cell (b j:Nat)
 deriving DecidableEq
structure Gh where
 m:Nat→Nat
 κ:Nat→Nat
 cp:Nat→Nat
 τ:Nat→Option Nat
 γ:Nat→Nat
 ow:Nat→Ow
structure Cx where
 h:Array Obj
 g:Gh
 N:Nat
 T:List (Nat×Nat)
def kG(x:Value):Prop:=x=.slice none 0 0∨∃a,x=.slice (some a) 0 0
def uZ(X:Cx)(f n k:Nat)(x:Value):Prop :=
 (k=0∧kG x)∨∃b off cap c e,X.g.τ f=some b∧x=.slice (some ⟨b,off,none⟩) k cap∧X.g.m b=off+k*n ∧
  X.h[b]?=some (.cells c e (0,0))∧off+cap*n≤c.size∧off=0∧0<k
def NS(X:Cx)(v:V)(x:Value):Prop :=
 ∀f n es,v=.slice (some f) n es→∀k,look f X.T=some k→es.length≤k∧(k=es.length→uZ X f n k x)
inductive bj (X:Cx):V→Value→Prop
 |undef:bj X .undef Go.undef
 |plain {v x} (h:fp X.h X.g.m v x) (ht:NS X v x):bj X v x
 |fC {n es x} (h:fp X.h X.g.m (.slice none n es) x):bj X (.fC n es) x
 |dW {n x} (h:kG x):bj X (.dW n) x
 |fD (n a cap):bj X (.fD n) (.slice (some a) 0 cap)
 |bK (id off):bj X (.bK id off) (.pointer (some ⟨X.g.κ id,off,none⟩))
 |cb (id s len cap) (h:len≤cap) (hc:cap*s=X.g.cp id):bj X (.cb id s len) (.slice (some ⟨X.g.κ id,0,none⟩) len cap)
 |qo (id s) {x} (h:kG x) (hc:X.g.cp id=0):bj X (.cb id s 0) x
 |gj (id s off len cap) (h:len≤cap):bj X (.gj id s off len) (.slice (some ⟨X.g.κ id,off*s,none⟩) len cap)
 |dB (i s len cap) (h:i<X.N) (hl:len≤cap):bj X (.dB i s len) (.slice (some ⟨X.g.γ i,0,none⟩) len cap)
 |ta (i s) {x} (h:i<X.N) (hz:kG x):bj X (.dB i s 0) x
 |bO (i off) (h:i<X.N):bj X (.bO i off) (.pointer (some ⟨X.g.γ i,off,none⟩))
 |fU:bj X .fU (.pointer none)
 |fa (row:List V) (off b o:Nat) (ys:Nat→Value) (hb:b<X.h.size) (hc:∀(j:Nat) (v:V),row[j]?=some v→cellAt X.h b (o+j)=some (ys j))
   (hv:∀(j:Nat) (v:V),row[j]?=some v→fp X.h X.g.m v (ys j)) (hp:∀(j:Nat) (v:V),row[j]?=some v→v.plain=true) (hm:o+row.length≤X.g.m b):bj X (.fa row off) (.pointer (some ⟨b,o+off,none⟩))
 |fn (f:FuncId) (cap:List V) (xs:Array Value) (hl:cap.length=xs.size) (hx:∀(j:Nat) (v:V),cap[j]?=some v→∃i o,v=.bO i o∧i<X.N∧xs[j]?=some (.pointer (some ⟨X.g.γ i,o,none⟩))) :
   bj X (.fn f cap) (.func (.func f) #[] xs)
 |fP:bj X .fP .nilFunc
 |map (i) (h:i<X.N):bj X (.map i) (.map (some (X.g.γ i)))
 |fV:bj X .fV (.map none)
 |agg (cs:List V) (xs:Array Value) (hl:cs.length=xs.size) (hx:∀(i:Nat) (v:V) (x:Value),cs[i]?=some v→xs[i]?=some x→bj X v x):bj X (.agg cs) (.agg xs)
 |tuple (cs:List V) (xs:Array Value) (hl:cs.length=xs.size) (hx:∀(i:Nat) (v:V) (x:Value),cs[i]?=some v→xs[i]?=some x→bj X v x):bj X (.tuple cs) (.tuple xs)
structure Le(X X':Cx):Prop where
 size:X.h.size≤X'.h.size
 cells:∀b o y,o<X.g.m b→cellAt X.h b o=some y→cellAt X'.h b o=some y
 m:∀b,b<X.h.size→X.g.m b≤X'.g.m b
 fb:X.N≤X'.N
 γ:∀i,i<X.N→X'.g.γ i=X.g.γ i
theorem fp.mono{X X':Cx}(le:Le X X'){v:V}{x:Value}(h:fp X.h X.g.m v x):fp X'.h X'.g.m v x:=by
 induction h with
 |int k n=>exact .int k n
 |bool b=>exact .bool b
 |str s=>exact .str s
 |aK=>exact .aK
 |nil t n=>exact .nil t n
 |empty t n a cap=>exact .empty t n a cap
 |slice tok n es b off cap ys hb eP iI hc hv hp hm ih =>
  have xJ:=le.m b hb;refine .slice tok n es b off cap ys (Nat.lt_of_lt_of_le hb le.size) eP iI (fun i row j v hr hj=>?_) ih hp (by omega)
  refine le.cells _ _ _ ?_ (hc i row j v hr hj);have h1:i<es.length:=by
   rcases Nat.lt_or_ge i es.length with h' | h'
   ·exact h'
   ·simp[List.getElem?_eq_none h']at hr
  have h2:j<row.length:=by
   rcases Nat.lt_or_ge j row.length with h' | h'
   ·exact h'
   ·simp[List.getElem?_eq_none h']at hj
  have h3:=iI i row hr;have h4:i*n+n≤es.length*n:=by
   have:=Nat.mul_le_mul_right n h1;rw[Nat.succ_mul]at this;exact this
  omega
structure iP(X X':Cx)(d:Nat):Prop where
 κ:X'.g.κ d=X.g.κ d
 cp:X'.g.cp d=X.g.cp d
 tok:∀k',look d X'.T=some k'→∃k,look d X.T=some k∧k≤k'∧(k'=k→X'.g.τ d=X.g.τ d∧∀b,X.g.τ d=some b →
  X'.g.m b=X.g.m b∧∀c e,X.h[b]?=some (.cells c e (0,0))→∃c',X'.h[b]?=some (.cells c' e (0,0))∧c'.size=c.size)
theorem iP.refl(X:Cx)(d:Nat):iP X X d:=⟨rfl,rfl,fun k h=>⟨k,h,Nat.le_refl _,fun _=>⟨rfl,fun _ _=>⟨rfl,fun c _ h=>⟨c,h,rfl⟩⟩⟩⟩⟩
theorem rf{d:Nat}{v:V}(h:v.cI d=false):v.cu d=false:=by
 cases v<;>simp_all[V.cu,V.dC,V.cI]
theorem NT{d:Nat}{cs:List V}(h:(V.agg cs).cu d=false){v:V}(hv:v∈cs):v.cu d=false:=by
 simp only[V.cu,V.dC,List.any_eq_false]at h;exact rf (by simpa using h v hv)
theorem tc{d:Nat}{v:V}(h:v.dC d=false):v.cu d=false:=by
 cases v with
 |tuple vs=>simp[V.dC,V.cI]at h
 |_=>simpa [V.cu] using h
theorem NU{d:Nat}{cs:List V}(h:(V.tuple cs).cu d=false){v:V}(hv:v∈cs):v.cu d=false:=by
 simp only[V.cu,List.any_eq_false]at h;exact tc (by simpa using h v hv)
theorem uZ.mono{X X':Cx}{f n k:Nat}{x:Value}(hτ:X'.g.τ f=X.g.τ f)
  (hb:∀b,X.g.τ f=some b→X'.g.m b=X.g.m b∧∀c e,X.h[b]?=some (.cells c e (0,0))→∃c',X'.h[b]?=some (.cells c' e (0,0))∧c'.size=c.size)
  (h:uZ X f n k x):uZ X' f n k x:=by
 rcases h with h | ⟨b,off,cap,c,e,h1,h2,h3,h4,h5⟩
 ·exact .inl h
 ·obtain⟨hm,hc⟩:=hb b h1
  obtain⟨c',h6,h7⟩:=hc c e h4;exact .inr ⟨b,off,cap,c',e,by rw[hτ,h1],h2,by omega,h6,by omega,h5.2⟩
theorem bj.mono{X X':Cx}(le:Le X X'){v:V}{x:Value}(h:bj X v x)(keep:∀d,iP X X' d∨v.cu d=false):bj X' v x:=by
 induction h with
 |undef=>exact .undef
 |plain hv ht =>
  refine .plain (hv.mono le) (fun f n es Ij k hk=>?_);subst Ij;rcases keep f with kp|kp
  ·obtain⟨k0,h0,hle,Wi⟩:=kp.tok k hk
   obtain⟨h1,h2⟩:=ht f n es rfl k0 h0;refine⟨Nat.le_trans h1 hle,fun Wj=>?_⟩;have:k0=k:=by omega
   subst this;obtain⟨a,b⟩:=Wi rfl;exact(h2 Wj).mono a b
  ·simp[V.cu,V.dC,V.cI]at kp
 |fC h=>exact .fC (h.mono le)
 |dW h=>exact .dW h
 |fD n a cap=>exact .fD n a cap
 |bK id off =>
  rcases keep id with kp|kp
  ·rw[←kp.κ];exact .bK id off
  ·simp[V.cu,V.dC,V.cI]at kp
 |cb id off len cap h hc =>
  rcases keep id with kp|kp
  ·rw[←kp.κ];exact .cb id off len cap h (hc.trans kp.cp.symm)
  ·simp[V.cu,V.dC,V.cI]at kp
 |qo id s h hc =>
  rcases keep id with kp|kp
  ·exact .qo id s h (kp.cp.trans hc)
  ·simp[V.cu,V.dC,V.cI]at kp
 |gj id s off len cap h =>
  rcases keep id with kp|kp
  ·rw[←kp.κ];exact .gj id s off len cap h
  ·simp[V.cu,V.dC,V.cI]at kp
 |dB i s len cap h hl=>rw[←le.γ i h];exact .dB i s len cap (Nat.lt_of_lt_of_le h le.fb) hl
 |ta i s h hz=>exact .ta i s (Nat.lt_of_lt_of_le h le.fb) hz
 |bO i off h=>rw[←le.γ i h];exact .bO i off (Nat.lt_of_lt_of_le h le.fb)
 |fU=>exact .fU
 |fa row off b o ys hb hc hv hp hm =>
  refine .fa row off b o ys (Nat.lt_of_lt_of_le hb le.size) (fun j v hj=>le.cells _ _ _ ?_ (hc j v hj)) (fun j v hj=>(hv j v hj).mono le) hp (Nat.le_trans hm (le.m b hb));have:j<row.length:=by
   rcases Nat.lt_or_ge j row.length with h' | h'
   ·exact h'
   ·simp[List.getElem?_eq_none h']at hj
  omega
 |fn f cap xs hl hx =>
  refine .fn f cap xs hl (fun j v hj=>?_);obtain⟨i,o,h1,h2,h3⟩:=hx j v hj;exact⟨i,o,h1,Nat.lt_of_lt_of_le h2 le.fb,by rw[le.γ i h2];exact h3⟩
 |fP=>exact .fP
 |map i h=>rw[←le.γ i h];exact .map i (Nat.lt_of_lt_of_le h le.fb)
 |fV=>exact .fV
 |agg cs xs hl hx ih=>exact .agg cs xs hl (fun i v x hv kj=>ih i v x hv kj (fun d=>(keep d).imp id (fun hm=>NT hm (List.mem_of_getElem? hv))))
 |tuple cs xs hl hx ih=>exact .tuple cs xs hl (fun i v x hv kj=>ih i v x hv kj (fun d=>(keep d).imp id (fun hm=>NU hm (List.mem_of_getElem? hv))))
def St.cx(S:St)(g:Gh)(w:World):Cx:=⟨w.heap,g,S.az.length,S.bm⟩
def BZ(h:Array Obj)(g:Gh)(N b:Nat):aW→Prop
 |.cells cs=>g.m b=0∧∃c e,h[b]?=some (.cells c e (0,0))∧cs.length≤c.size∧∀(j:Nat) (v:V) (y:Value),cs[j]?=some v→c[j]?=some y→v.cM=true∧(∀d,v.cu d=false)∧bj ⟨h,g,N,[]⟩ v y
 |.map es=>g.m b=0∧∃c k,h[b]?=some (.map c k)∧es.length=c.size∧∀(j:Nat) (p:V×V) (y:MapEntry),es[j]?=some p→c[j]?=some y →
   (∀d,p.1.cu d=false)∧(∀d,p.2.dC d=false)∧bj ⟨h,g,N,[]⟩ p.1 y.key∧bj ⟨h,g,N,[]⟩ p.2 y.val
def End(h:Array Obj)(g:Gh)(b j n k:Nat)(x:Value):Prop :=
 (k=0∧kG x)∨∃q cap c e,x=.slice (some ⟨q,0,none⟩) k cap∧g.ow q=.cell b j∧g.m q=k*n∧h[q]?=some (.cells c e (0,0))∧cap*n≤c.size∧0<k
def xK(h:Array Obj)(g:Gh)(b:Nat):aW→Prop
 |.cells cs=>∀(j n:Nat) (es:List (List V)) (y:Value),cs[j]?=some (.fC n es)→cellAt h b j=some y→End h g b j n es.length y
 |.map _=>True
structure qp(h:Array Obj)(g:Gh)(G:List aW):Prop where
 obj:∀i o,G[i]?=some o→o=.cells []∨g.ow (g.γ i)=.az i∧BZ h g G.length (g.γ i) o
 own:∀i o,G[i]?=some o→xK h g (g.γ i) o
 z:∀b i,g.ow b=.az i→g.m b=0∧i<G.length
structure Entry where
 w0:World
 g0:Gh
 N0:Nat
 nt:Nat
 ds:List Deferred:=[]
def Entry.own(E:Entry)(b:Nat):Prop:=∃p q,E.g0.ow b=.cell p q
structure NV(E:Entry)(g:Gh)(N:Nat)(w:World):Prop where
 os:w.os=E.w0.os
 tape:w.tape=E.w0.tape
 output:w.output=E.w0.output
 size:E.w0.heap.size≤w.heap.size
 fb:E.N0≤N
 γ:∀i,i<E.N0→g.γ i=E.g0.γ i
 γnew:∀i,E.N0≤i→i<N→E.w0.heap.size≤g.γ i
 lz:∀b,b<E.w0.heap.size→(∀i,i<E.N0→E.g0.ow b≠.az i)→¬ E.own b→w.heap[b]?=E.w0.heap[b]?∧g.m b=E.g0.m b
 grow:∀b,b<E.w0.heap.size→E.own b→(∀o y,o<E.g0.m b→cellAt E.w0.heap b o=some y→cellAt w.heap b o=some y)∧E.g0.m b≤g.m b
 ig:∀b p q,b<E.w0.heap.size→g.ow b=.cell p q→E.own b
 lv:∀b i,g.ow b=.az i→b<E.w0.heap.size→E.g0.ow b=.az i∧i<E.N0
structure R(E:Entry)(g:Gh)(S:St)(a:Act)(w:World):Prop where
 env:∀s v,look s S.env=some v→∃x,a.tmps[s]?=some x∧bj (S.cx g w) v x
 bb:∀id cs,look id S.bb=some cs→(cs=[]∧g.cp id=0)∨g.ow (g.κ id)=.obj id∧E.w0.heap.size≤g.κ id∧g.m (g.κ id)=0 ∧
  ∃c e,w.heap[g.κ id]?=some (.cells c e (0,0))∧g.cp id≤c.size∧∀(j:Nat) (v:V),cs[j]?=some v→v.cM=true∧∃y,c[j]?=some y∧bj (S.cx g w) v y
 bm:∀f k b,look f S.bm=some k→g.τ f=some b→g.ow b=.tok f∧(E.w0.heap.size≤b∨E.own b)∧b<w.heap.size
 az:qp w.heap g S.az
 defers:a.defers=E.ds
 jy:a.tmps.size=E.nt
 same:NV E g S.az.length w
end Go.Vm

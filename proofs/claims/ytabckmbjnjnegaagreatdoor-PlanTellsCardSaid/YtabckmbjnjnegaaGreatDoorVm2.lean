/- - -/
import Derived.Orders
import Derived.Laws.Append
import Derived.Laws.Rows
import Derived.Test.YtabckmbjnjnegaaGreatDoorVm1
namespace Go.Vm
set_option linter.all false
def cellAt(h:Array Obj)(b o:Nat):Option Value :=
 match h[b]? with
 |some (.cells c _ _)=>c[o]?
 |_=>none
def cell?_eq(w:World)(b o:Nat):w.cell? ⟨b,o,none⟩=cellAt w.heap b o:=by
 simp[World.cell?,cellAt];rfl
variable{h:Array Obj}{o:Nat}
def CW{b:Nat}{y:Value}(hc:cellAt h b o=some y):b<h.size:=by
 unfold cellAt at hc;rcases cS b h.size with h' | h'
 .exact h'
 .simp[ou h']at hc
def mn{b:Nat}{c:Array Value}{e:TypeId}{fz:Nat×Nat}(hb:h[b]?=some (.cells c e fz)):cellAt h b o=c[o]?:=by
 simp[cellAt,hb]
def vy{h':Array Obj}{b:Nat}(e:h'[b]?=h[b]?)(o:Nat):cellAt h' b o=cellAt h b o:=by
 simp[cellAt,e]
inductive fK (h:Array Obj) (m:Nat->Nat):V->Value->Prop
 |int (k n):fK h m (.int k n) (.int k n)
 |bool (b):fK h m (.bool b) (.bool b)
 |str (s:ByteArray):fK h m (.str s.data.toList) (.string s)
 |cj:fK h m .cj (.slice none 0 0)
 |nil (tok n):fK h m (.slice tok n []) (.slice none 0 0)
 |empty (tok n) (a:Addr) (cap:Nat):fK h m (.slice tok n []) (.slice (some a) 0 cap)
 |slice (tok:Option Nat) (n:Nat) (es:List (List V)) (b off cap:Nat) (ys:Nat->Nat->Value) (hb:b<h.size) (eM:es.length<=cap)
   (jG:∀(i:Nat) (row:List V),es[i]?=some row->row.length=n)
   (hc:∀(i:Nat) (row:List V) (j:Nat) (v:V),es[i]?=some row->row[j]?=some v->cellAt h b (off+i*n+j)=some (ys i j))
   (hv:∀(i:Nat) (row:List V) (j:Nat) (v:V),es[i]?=some row->row[j]?=some v->fK h m v (ys i j))
   (hp:∀(i:Nat) (row:List V) (j:Nat) (v:V),es[i]?=some row->row[j]?=some v->v.plain=true)
   (hm:off+es.length*n<=m b):fK h m (.slice tok n es) (.slice (some ⟨b,off,none⟩) es.length cap)
inductive Ow where
 |none
 |obj (id:Nat)
 |tok (f:Nat)
 |aC (i:Nat)
 |cell (b j:Nat)
 deriving DecidableEq
structure Gh where
 m:Nat->Nat
 κ:Nat->Nat
 cp:Nat->Nat
 τ:Nat->Option Nat
 γ:Nat->Nat
 ow:Nat->Ow
structure Cx where
 h:Array Obj
 g:Gh
 N:Nat
 T:List (Nat×Nat)
def nn(x:Value):Prop:=x=.slice none 0 0\/∃a,x=.slice (some a) 0 0
def A9(X:Cx)(f n k:Nat)(x:Value):Prop :=
 (k=0/\nn x)\/∃b off cap c e,X.g.τ f=some b/\x=.slice (some ⟨b,off,none⟩) k cap/\X.g.m b=off+k*n /\
  X.h[b]?=some (.cells c e (0,0))/\off+cap*n<=c.size/\off=0/\0<k
def ZF(X:Cx)(v:V)(x:Value):Prop :=
 ∀f n es,v=.slice (some f) n es->∀k,look f X.T=some k->es.length<=k/\(k=es.length->A9 X f n k x)
inductive bh (X:Cx):V->Value->Prop
 |undef:bh X .undef Go.undef
 |plain {v x} (h:fK X.h X.g.m v x) (ht:ZF X v x):bh X v x
 |eC {n es x} (h:fK X.h X.g.m (.slice none n es) x):bh X (.eC n es) x
 |er {n x} (h:nn x):bh X (.er n) x
 |gF (n a cap):bh X (.gF n) (.slice (some a) 0 cap)
 |bn (id off):bh X (.bn id off) (.pointer (some ⟨X.g.κ id,off,none⟩))
 |bY (id s len cap) (h:len<=cap) (hc:cap*s=X.g.cp id):bh X (.bY id s len) (.slice (some ⟨X.g.κ id,0,none⟩) len cap)
 |tF (id s) {x} (h:nn x) (hc:X.g.cp id=0):bh X (.bY id s 0) x
 |fQ (id s off len cap) (h:len<=cap):bh X (.fQ id s off len) (.slice (some ⟨X.g.κ id,off*s,none⟩) len cap)
 |cO (i s len cap) (h:i<X.N) (hl:len<=cap):bh X (.cO i s len) (.slice (some ⟨X.g.γ i,0,none⟩) len cap)
 |wD (i s) {x} (h:i<X.N) (hz:nn x):bh X (.cO i s 0) x
 |jg (i s off len cap) (h:i<X.N) (hl:len<=cap):bh X (.jg i s off len) (.slice (some ⟨X.g.γ i,off*s,none⟩) len cap)
 |bu (i off) (h:i<X.N):bh X (.bu i off) (.pointer (some ⟨X.g.γ i,off,none⟩))
 |ig:bh X .ig (.pointer none)
 |ff (row:List V) (off b o:Nat) (ys:Nat->Value) (hb:b<X.h.size) (hc:∀(j:Nat) (v:V),row[j]?=some v->cellAt X.h b (o+j)=some (ys j))
   (hv:∀(j:Nat) (v:V),row[j]?=some v->fK X.h X.g.m v (ys j)) (hp:∀(j:Nat) (v:V),row[j]?=some v->v.plain=true) (hm:o+row.length<=X.g.m b):bh X (.ff row off) (.pointer (some ⟨b,o+off,none⟩))
 |fn (f:FuncId) (cap:List V) (xs:Array Value) (hl:cap.length=xs.size) (hx:∀(j:Nat) (v:V),cap[j]?=some v->∃i o,v=.bu i o/\i<X.N/\xs[j]?=some (.pointer (some ⟨X.g.γ i,o,none⟩))) :
   bh X (.fn f cap) (.func (.func (kb f)) #[] xs)
 |ij:bh X .ij .nilFunc
 |map (i) (h:i<X.N):bh X (.map i) (.map (some (X.g.γ i)))
 |ik:bh X .ik (.map none)
 |agg (cs:List V) (xs:Array Value) (hl:cs.length=xs.size) (hx:∀(i:Nat) (v:V) (x:Value),cs[i]?=some v->xs[i]?=some x->bh X v x):bh X (.agg cs) (.agg xs)
 |tuple (cs:List V) (xs:Array Value) (hl:cs.length=xs.size) (hx:∀(i:Nat) (v:V) (x:Value),cs[i]?=some v->xs[i]?=some x->bh X v x):bh X (.tuple cs) (.tuple xs)
structure Le(X X':Cx):Prop where
 size:X.h.size<=X'.h.size
 cells:∀b o y,o<X.g.m b->cellAt X.h b o=some y->cellAt X'.h b o=some y
 m:∀b,b<X.h.size->X.g.m b<=X'.g.m b
 eZ:X.N<=X'.N
 γ:∀i,i<X.N->X'.g.γ i=X.g.γ i
variable{X X':Cx}
def fK.mono(le:Le X X'){v:V}{x:Value}(h:fK X.h X.g.m v x):fK X'.h X'.g.m v x:=by
 induction h with
 |int k n=>exact .int k n
 |bool b=>exact .bool b
 |str s=>exact .str s
 |cj=>exact .cj
 |nil t n=>exact .nil t n
 |empty t n a cap=>exact .empty t n a cap
 |slice tok n es b off cap ys hb eM jG hc hv hp hm ih =>
  have uu:=le.m b hb;refine .slice tok n es b off cap ys (jC hb le.size) eM jG (λi row j v hr hj=>?_) ih hp (by omega)
  refine le.cells _ _ _ ?_ (hc i row j v hr hj);have h1:i<es.length:=by
   rcases cS i es.length with h' | h'
   .exact h'
   .simp[kW h']at hr
  have h2:j<row.length:=by
   rcases cS j row.length with h' | h'
   .exact h'
   .simp[kW h']at hj
  have h3:=jG i row hr;have h4:i*n+n<=es.length*n:=by
   have:=uk n h1;rw[rY]at this;exact this
  omega
structure ke(X X':Cx)(d:Nat):Prop where
 κ:X'.g.κ d=X.g.κ d
 cp:X'.g.cp d=X.g.cp d
 tok:∀k',look d X'.T=some k'->∃k,look d X.T=some k/\k<=k'/\(k'=k->X'.g.τ d=X.g.τ d/\∀b,X.g.τ d=some b ->
  X'.g.m b=X.g.m b/\∀c e,X.h[b]?=some (.cells c e (0,0))->∃c',X'.h[b]?=some (.cells c' e (0,0))/\c'.size=c.size)
def ke.refl(X:Cx)(d:Nat):ke X X d:=⟨rfl,rfl,λk h=>⟨k,h,b8 _,λ_=>⟨rfl,λ_ _=>⟨rfl,λc _ h=>⟨c,h,rfl⟩⟩⟩⟩⟩
variable{d:Nat}
def wE{v:V}(h:v.cQ d=false):v.cI d=false:=by
 cases v<;>simp_all[V.cI,V.dW,V.cQ]
def ZG{cs:List V}(h:(V.agg cs).cI d=false){v:V}(hv:v∈cs):v.cI d=false:=by
 simp only[V.cI,V.dW,py]at h;exact wE (by simpa using h v hv)
def yP{v:V}(h:v.dW d=false):v.cI d=false:=by
 cases v with
 |tuple vs=>simp[V.dW,V.cQ]at h
 |_=>simpa [V.cI] using h
def ZH{cs:List V}(h:(V.tuple cs).cI d=false){v:V}(hv:v∈cs):v.cI d=false:=by
 simp only[V.cI,py]at h;exact yP (by simpa using h v hv)
def A9.mono{f n k:Nat}{x:Value}(hτ:X'.g.τ f=X.g.τ f)
  (hb:∀b,X.g.τ f=some b->X'.g.m b=X.g.m b/\∀c e,X.h[b]?=some (.cells c e (0,0))->∃c',X'.h[b]?=some (.cells c' e (0,0))/\c'.size=c.size)
  (h:A9 X f n k x):A9 X' f n k x:=by
 rcases h with h | ⟨b,off,cap,c,e,h1,h2,h3,h4,h5⟩
 .exact .inl h
 .obtain⟨hm,hc⟩:=hb b h1
  obtain⟨c',h6,h7⟩:=hc c e h4;exact .inr ⟨b,off,cap,c',e,by rw[hτ,h1],h2,by omega,h6,by omega,h5.2⟩
def bh.mono(le:Le X X'){v:V}{x:Value}(h:bh X v x)(keep:∀d,ke X X' d\/v.cI d=false):bh X' v x:=by
 induction h with
 |undef=>exact .undef
 |plain hv ht =>
  refine .plain (hv.mono le) (λf n es R9 k hk=>?_);subst R9;rcases keep f with kp|kp
  .obtain⟨k0,h0,hle,al2⟩:=kp.tok k hk
   obtain⟨h1,h2⟩:=ht f n es rfl k0 h0;refine⟨iO h1 hle,λhke=>?_⟩;have:k0=k:=by omega
   subst this;obtain⟨a,b⟩:=al2 rfl;exact(h2 hke).mono a b
  .simp[V.cI,V.dW,V.cQ]at kp
 |eC h=>exact .eC (h.mono le)
 |er h=>exact .er h
 |gF n a cap=>exact .gF n a cap
 |bn id off =>
  rcases keep id with kp|kp
  .rw[<-kp.κ];exact .bn id off
  .simp[V.cI,V.dW,V.cQ]at kp
 |bY id off len cap h hc =>
  rcases keep id with kp|kp
  .rw[<-kp.κ];exact .bY id off len cap h (hc.trans kp.cp.symm)
  .simp[V.cI,V.dW,V.cQ]at kp
 |tF id s h hc =>
  rcases keep id with kp|kp
  .exact .tF id s h (kp.cp.trans hc)
  .simp[V.cI,V.dW,V.cQ]at kp
 |fQ id s off len cap h =>
  rcases keep id with kp|kp
  .rw[<-kp.κ];exact .fQ id s off len cap h
  .simp[V.cI,V.dW,V.cQ]at kp
 |cO i s len cap h hl=>rw[<-le.γ i h];exact .cO i s len cap (jC h le.eZ) hl
 |wD i s h hz=>exact .wD i s (jC h le.eZ) hz
 |jg i s off len cap h hl=>rw[<-le.γ i h];exact .jg i s off len cap (jC h le.eZ) hl
 |bu i off h=>rw[<-le.γ i h];exact .bu i off (jC h le.eZ)
 |ig=>exact .ig
 |ff row off b o ys hb hc hv hp hm =>
  refine .ff row off b o ys (jC hb le.size) (λj v hj=>le.cells _ _ _ ?_ (hc j v hj)) (λj v hj=>(hv j v hj).mono le) hp (iO hm (le.m b hb));have:j<row.length:=by
   rcases cS j row.length with h' | h'
   .exact h'
   .simp[kW h']at hj
  omega
 |fn f cap xs hl hx =>
  refine .fn f cap xs hl (λj v hj=>?_);obtain⟨i,o,h1,h2,h3⟩:=hx j v hj;exact⟨i,o,h1,jC h2 le.eZ,by rw[le.γ i h2];exact h3⟩
 |ij=>exact .ij
 |map i h=>rw[<-le.γ i h];exact .map i (jC h le.eZ)
 |ik=>exact .ik
 |agg cs xs hl hx ih=>exact .agg cs xs hl (λi v x hv nW=>ih i v x hv nW (λd=>(keep d).imp id (λhm=>ZG hm (gw hv))))
 |tuple cs xs hl hx ih=>exact .tuple cs xs hl (λi v x hv nW=>ih i v x hv nW (λd=>(keep d).imp id (λhm=>ZH hm (gw hv))))
def St.cx(S:St)(g:Gh)(w:World):Cx:=⟨w.heap,g,S.aC.length,S.bo⟩
def Jz(h:Array Obj)(g:Gh)(N b:Nat):aM->Prop
 |.cells cs=>g.m b=0/\∃c e,h[b]?=some (.cells c e (0,0))/\cs.length<=c.size/\∀(j:Nat) (v:V) (y:Value),cs[j]?=some v->c[j]?=some y->v.c5=true/\(∀d,v.cI d=false)/\bh ⟨h,g,N,[]⟩ v y
 |.map es=>g.m b=0/\∃c k,h[b]?=some (.map c k)/\es.length=c.size/\∀(j:Nat) (p:V×V) (y:MapEntry),es[j]?=some p->c[j]?=some y ->
   (∀d,p.1.cI d=false)/\(∀d,p.2.dW d=false)/\bh ⟨h,g,N,[]⟩ p.1 y.key/\bh ⟨h,g,N,[]⟩ p.2 y.val
def End(h:Array Obj)(g:Gh)(b j n k:Nat)(x:Value):Prop :=
 (k=0/\nn x)\/∃q cap c e,x=.slice (some ⟨q,0,none⟩) k cap/\g.ow q=.cell b j/\g.m q=k*n/\h[q]?=some (.cells c e (0,0))/\cap*n<=c.size/\0<k
def Ey(h:Array Obj)(g:Gh)(b:Nat):aM->Prop
 |.cells cs=>∀(j n:Nat) (es:List (List V)) (y:Value),cs[j]?=some (.eC n es)->cellAt h b j=some y->End h g b j n es.length y
 |.map _=>True
structure vz(h:Array Obj)(g:Gh)(G:List aM):Prop where
 obj:∀i o,G[i]?=some o->o=.cells []\/g.ow (g.γ i)=.aC i/\Jz h g G.length (g.γ i) o
 own:∀i o,G[i]?=some o->Ey h g (g.γ i) o
 z:∀b i,g.ow b=.aC i->g.m b=0/\i<G.length
abbrev Pk:=List (Nat×List V)
def pF(T:Pk)(h:Array Obj)(m:Nat->Nat):Prop:=∀k row,(k,row)∈T->k<h.size/\row.length<=m k/\∀(j:Nat) (v:V),row[j]?=some v->v.plain=true/\∃y,cellAt h k j=some y/\fK h m v y
def pF.mono{T:Pk}(le:Le X X')(h:pF T X.h X.g.m):pF T X'.h X'.g.m:=λk row hk=>by
 obtain⟨h1,h2,h3⟩:=h k row hk;refine⟨jC h1 le.size,iO h2 (le.m k h1),λj v hj=>?_⟩;obtain⟨h4,y,h5,h6⟩:=h3 j v hj;have:j<row.length:=by
  rcases cS j row.length with h' | h'
  .exact h'
  .simp[kW h']at hj
 exact⟨h4,y,le.cells _ _ _ (by omega) h5,h6.mono le⟩
structure Entry where
 w0:World
 g0:Gh
 N0:Nat
 nt:Nat
 ds:List Deferred
 T:Pk
 pk:pF T w0.heap g0.m
 z:∀b i,g0.ow b=.aC i->g0.m b=0
def Entry.own(E:Entry)(b:Nat):Prop:=∃p q,E.g0.ow b=.cell p q
structure ZI(E:Entry)(g:Gh)(N:Nat)(w:World):Prop where
 os:w.os=E.w0.os
 tape:w.tape=E.w0.tape
 output:w.output=E.w0.output
 size:E.w0.heap.size<=w.heap.size
 eZ:E.N0<=N
 γ:∀i,i<E.N0->g.γ i=E.g0.γ i
 γnew:∀i,E.N0<=i->i<N->E.w0.heap.size<=g.γ i
 lQ:∀b,b<E.w0.heap.size->(∀i,i<E.N0->E.g0.ow b≠.aC i)->¬ E.own b->w.heap[b]?=E.w0.heap[b]?/\g.m b=E.g0.m b
 grow:∀b,b<E.w0.heap.size->E.own b->(∀o y,o<E.g0.m b->cellAt E.w0.heap b o=some y->cellAt w.heap b o=some y)/\E.g0.m b<=g.m b
 jw:∀b p q,b<E.w0.heap.size->g.ow b=.cell p q->E.own b
 lv:∀b i,g.ow b=.aC i->b<E.w0.heap.size->E.g0.ow b=.aC i/\i<E.N0
structure R(E:Entry)(g:Gh)(S:St)(a:Act)(w:World):Prop where
 env:∀s v,look s S.env=some v->∃x,a.tmps[s]?=some x/\bh (S.cx g w) v x
 aY:∀id cs,look id S.aY=some cs->(cs=[]/\g.cp id=0)\/g.ow (g.κ id)=.obj id/\E.w0.heap.size<=g.κ id/\g.m (g.κ id)=0 /\
  ∃c e,w.heap[g.κ id]?=some (.cells c e (0,0))/\g.cp id<=c.size/\∀(j:Nat) (v:V),cs[j]?=some v->v.c5=true/\∃y,c[j]?=some y/\bh (S.cx g w) v y
 bo:∀f k b,look f S.bo=some k->g.τ f=some b->g.ow b=.tok f/\(E.w0.heap.size<=b\/E.own b)/\b<w.heap.size
 aC:vz w.heap g S.aC
 defers:a.defers=E.ds
 kr:a.tmps.size=E.nt
 same:ZI E g S.aC.length w
variable{E:Entry}{w:World}
def R.pG{g:Gh}{S:St}{a:Act}(hR:R E g S a w):Le ⟨E.w0.heap,E.g0,E.N0,[]⟩ (S.cx g w) where
 size:=hR.same.size
 cells:=λb o y ho hc=>by
  have hb:=CW hc;by_cases h1:E.own b
  .exact(hR.same.grow b hb h1).1 o y ho hc
  .by_cases h2:∃i,E.g0.ow b=.aC i
   .obtain⟨i,h2⟩:=h2
    have:=E.z b i h2;exact absurd ho (by show ¬ o<E.g0.m b;omega)
   .exact(vy (hR.same.lQ b hb (λi _ h=>h2 ⟨i,h⟩) h1).1 o).trans hc
 m:=λb hb=>by
  by_cases h1:E.own b
  .exact(hR.same.grow b hb h1).2
  .by_cases h2:∃i,E.g0.ow b=.aC i
   .obtain⟨i,h2⟩:=h2
    have:=E.z b i h2;show E.g0.m b<=_;omega
   .exact xr (hR.same.lQ b hb (λi _ h=>h2 ⟨i,h⟩) h1).2.symm
 eZ:=hR.same.eZ
 γ:=hR.same.γ
def R.pk{g:Gh}{S:St}{a:Act}(hR:R E g S a w):pF E.T w.heap g.m:=pF.mono (X:=⟨E.w0.heap,E.g0,E.N0,[]⟩) (X':=S.cx g w) hR.pG E.pk

/- - -/
import Derived.Test.YtabckmbjnjnegaaGreatDoorVmH
namespace Go.Vm
set_option linter.all false
def Kx(Cm:Nat->bI)(L:bI):Prop:=∀f args G r,L f args G=some r->∃N,∀m,N<=m->Cm m f args G=some r
section
variable {Cm:Nat->bI} {L:bI} (hL:Kx Cm L)
include hL
variable{S':St}
def abp{d:Option Nat}{S:St}{vo:VO}(h:vo.run L d S=some S'):∃N,∀m,N<=m->vo.run (Cm m) d S=some S':=by
 cases vo with
 |call alone f args reg =>
  cases alone with
  |false =>
   simp only[VO.run]at h ⊢;cases hf:S.ev f with
   |none=>simp[hf]at h
   |some fv =>
    cases ha:oY S args with
    |none=>cases fv<;>simp[hf,ha]at h
    |some vs =>
     cases fv with
     |fn g cap =>
      simp only[hf,ha]at h ⊢;cases hc:L g (vs++cap) S.aC with
      |none=>simp[hc]at h
      |some r =>
       obtain⟨N,hN⟩:=hL _ _ _ _ hc;refine⟨N,λm hm=>?_⟩;rw[hN m hm];rw[hc]at h;exact h
     |_=>simp[hf,ha]at h
  |true =>
   simp only[VO.run]at h ⊢;cases hf:S.ev f with
   |none=>simp[hf]at h
   |some fv =>
    cases ha:oZ S args with
    |none=>cases fv with
     |fn g cap=>cases cap<;>simp[hf,ha]at h
     |_=>simp[hf,ha]at h
    |some vs =>
     cases fv with
     |fn g cap =>
      cases cap with
      |nil =>
       simp only[hf,ha]at h ⊢;cases hc:L g vs [] with
       |none=>simp[hc]at h
       |some r =>
        obtain⟨N,hN⟩:=hL _ _ _ _ hc;refine⟨N,λm hm=>?_⟩;rw[hN m hm];rw[hc]at h;exact h
      |cons a b=>simp[hf,ha]at h
     |_=>simp[hf,ha]at h
 |um f args =>
  simp only[VO.run]at h ⊢;cases hf:S.ev f with
  |none=>simp[hf]at h
  |some fv =>
   cases ha:oY S args with
   |none=>cases fv<;>simp[hf,ha]at h
   |some vs =>
    cases fv with
    |fn g cap =>
     simp only[hf,ha]at h ⊢;cases hc:L g (vs++cap) S.aC with
     |none=>simp[hc]at h
     |some r =>
      obtain⟨N,hN⟩:=hL _ _ _ _ hc;refine⟨N,λm hm=>?_⟩;rw[hN m hm];rw[hc]at h;exact h
    |_=>simp[hf,ha]at h
 |own f args ids id pos =>
  simp only[VO.run]at h ⊢;cases hf:S.ev f with
  |none=>simp[hf]at h
  |some fv =>
   cases ha:nm S ids args with
   |none=>cases fv with
    |fn g cap=>cases cap<;>simp[hf,ha]at h
    |_=>simp[hf,ha]at h
   |some vs =>
    cases fv with
    |fn g cap =>
     cases cap with
     |nil =>
      simp only[hf,ha]at h ⊢;cases hc:L g vs [] with
      |none=>simp[hc]at h
      |some r =>
       obtain⟨N,hN⟩:=hL _ _ _ _ hc;refine⟨N,λm hm=>?_⟩;rw[hN m hm];rw[hc]at h;exact h
     |cons a b=>simp[hf,ha]at h
    |_=>simp[hf,ha]at h
 |vv f args id =>
  simp only[VO.run]at h ⊢;cases hf:S.ev f with
  |none=>simp[hf]at h
  |some fv =>
   cases ha:oZ S args with
   |none=>cases fv with
    |fn g cap=>cases cap<;>simp[hf,ha]at h
    |_=>simp[hf,ha]at h
   |some vs =>
    cases fv with
    |fn g cap =>
     cases cap with
     |nil =>
      simp only[hf,ha]at h ⊢;cases hc:L g vs [] with
      |none=>simp[hc]at h
      |some r =>
       obtain⟨N,hN⟩:=hL _ _ _ _ hc;refine⟨N,λm hm=>?_⟩;rw[hN m hm];rw[hc]at h;exact h
     |cons a b=>simp[hf,ha]at h
    |_=>simp[hf,ha]at h
 |vu f args ids =>
  simp only[VO.run]at h ⊢;cases hf:S.ev f with
  |none=>simp[hf]at h
  |some fv =>
   cases ha:nm S ids args with
   |none=>cases fv with
    |fn g cap=>cases cap<;>simp[hf,ha]at h
    |_=>simp[hf,ha]at h
   |some vs =>
    cases fv with
    |fn g cap =>
     cases cap with
     |nil =>
      simp only[hf,ha]at h ⊢;cases hc:L g vs [] with
      |none=>simp[hc]at h
      |some r =>
       obtain⟨N,hN⟩:=hL _ _ _ _ hc;refine⟨N,λm hm=>?_⟩;rw[hN m hm];rw[hc]at h;exact h
     |cons a b=>simp[hf,ha]at h
    |_=>simp[hf,ha]at h
 |r7 arr _ _ _=>cases arr<;>exact⟨0,λm _=>h⟩
 |_=>exact⟨0,λm _=>h⟩
def aoJ{S:St}{o:cf}(h:o.run L S=some S'):∃N,∀m,N<=m->o.run (Cm m) S=some S':=by
 unfold cf.run at h ⊢;cases hg:o.guard with
 |none=>rw[hg]at h;exact abp hL h
 |some q =>
  obtain⟨g,want⟩:=q;rw[hg]at h;simp only at h ⊢;cases hl:look g S.env with
  |none=>simp[hl]at h
  |some v =>
   rw[hl]at h;cases v with
   |bool b =>
    simp only at h ⊢;cases hb:b==want with
    |true=>rw[hb]at h;simp only[bW]at h ⊢;exact abp hL h
    |false=>rw[hb]at h;simp only[gL]at h ⊢;exact⟨0,λ_ _=>h⟩
   |_=>exact⟨0,λ_ _=>h⟩
def TN:∀{os:List cf} {S S':St},iZ L os S=some S'->∃N,∀m,N<=m->iZ (Cm m) os S=some S'
 |[],_,_,h=>⟨0,λ_ _=>h⟩
 |o::os,S,S',h=>by
  simp only[iZ]at h ⊢;cases ho:o.run L S with
  |none=>simp[ho]at h
  |some S1 =>
   rw[ho]at h;obtain⟨N,hN⟩:=aoJ hL ho;obtain⟨M,hM⟩:=TN h;refine⟨N+M,λm hm=>?_⟩;rw[hN m (by omega)]
   exact hM m (by omega)
end
def abq{Bm:Nat->Nat->St->Option (sa×St)}{B:St->Option (sa×St)}(hB:∀S x,B S=some x->∃N,∀m k,N<=m->N<=k->Bm m k S=some x) :
  ∀{n:Nat} {S:St} {x:sa×St},iter B n S=some x->∃N,∀m k j,N<=m->N<=k->N<=j->iter (Bm m k) j S=some x
 |0,_,_,h=>by simp[iter]at h
 |n+1,S,x,h=>by
  simp only[iter]at h;cases hb:B S with
  |none=>simp[hb]at h
  |some y =>
   obtain⟨N,hN⟩:=hB _ _ hb;rw[hb]at h;obtain⟨e,S1⟩:=y;cases e with
   |normal =>
    simp only at h;obtain⟨M,hM⟩:=abq hB h;refine⟨N+M+1,λm k j hm hk hj=>?_⟩;obtain⟨i,rfl⟩:∃i,j=i+1:=⟨j-1,by omega⟩
    simp only[iter];rw[hN _ _ (by omega) (by omega)]
    exact hM m k i (by omega) (by omega) (by omega)
   |exit i =>
    refine⟨N+1,λm k j hm hk hj=>?_⟩;obtain⟨i,rfl⟩:∃i,j=i+1:=⟨j-1,by omega⟩
    simp only[iter];rw[hN _ _ (by omega) (by omega)]
    exact h
   |ret =>
    refine⟨N+1,λm k j hm hk hj=>?_⟩;obtain⟨i,rfl⟩:∃i,j=i+1:=⟨j-1,by omega⟩
    simp only[iter];rw[hN _ _ (by omega) (by omega)]
    exact h
def EY{Cm:Nat->bI}{L:bI}(hL:Kx Cm L){n:Nat}:∀{c:VC} {S:St} {x:sa×St},VC.run L n c S=some x->∃N,∀m k,N<=m->N<=k->VC.run (Cm m) k c S=some x
 |.skip,_,_,h=>⟨0,λ_ _ _ _=>h⟩
 |.exit _,_,_,h=>⟨0,λ_ _ _ _=>h⟩
 |.ret,_,_,h=>⟨0,λ_ _ _ _=>h⟩
 |.Es _,_,_,h=>⟨0,λ_ _ _ _=>h⟩
 |.dead,_,_,h=>by simp[VC.run]at h
 |.region gh ids ops keep,S,x,h=>by
  simp only[VC.run]at h ⊢;cases h1:qh gh S with
  |none=>simp[h1]at h
  |some S1 =>
   simp only[h1]at h ⊢;cases h2:S1.clean ids with
   |none=>simp[h2]at h
   |some S2 =>
    simp only[h2]at h ⊢;cases h3:iZ L ops S2 with
    |none=>simp[h3]at h
    |some S3 =>
     obtain⟨N,hN⟩:=TN hL h3;refine⟨N,λm k hm hk=>?_⟩;rw[hN m hm];rw[h3]at h;exact h
 |.seq a b,S,x,h=>by
  simp only[VC.run]at h ⊢;cases h1:VC.run L n a S with
  |none=>simp[h1]at h
  |some y =>
   obtain⟨N,hN⟩:=EY hL h1;rw[h1]at h;obtain⟨e,S1⟩:=y;cases e with
   |normal =>
    obtain⟨M,hM⟩:=EY hL (c:=b) h;refine⟨N+M,λm k hm hk=>?_⟩;rw[hN m k (by omega) (by omega)]
    exact hM m k (by omega) (by omega)
   |exit i =>
    refine⟨N,λm k hm hk=>?_⟩;rw[hN m k (by omega) (by omega)]
    exact h
   |ret =>
    refine⟨N,λm k hm hk=>?_⟩;rw[hN m k (by omega) (by omega)]
    exact h
 |.cond c a b,S,x,h=>by
  simp only[VC.run]at h ⊢;cases hc:S.ev c with
  |none=>simp[hc]at h
  |some v =>
   rw[hc]at h;cases v with
   |bool t =>
    cases t with
    |true=>simp only[bW]at h ⊢;exact EY hL h
    |false=>simp only[gL]at h ⊢;exact EY hL h
   |_=>simp at h
 |.block id a,S,x,h=>by
  simp only[VC.run]at h ⊢;cases h1:VC.run L n a S with
  |none=>simp[h1]at h
  |some y =>
   obtain⟨N,hN⟩:=EY hL h1;refine⟨N,λm k hm hk=>?_⟩;rw[hN m k hm hk];rw[h1]at h;exact h
 |.loop gh keep a,S,x,h=>by
  simp only[VC.run]at h ⊢;cases h1:qh gh S with
  |none=>simp[h1]at h
  |some S1 =>
   simp only[h1]at h ⊢;obtain⟨N,hN⟩:=abq (Bm:=λm k S=>VC.run (Cm m) k a (S.keep keep)) (λS x hx=>EY hL hx) h;exact⟨N,λm k hm hk=>hN m k k hm hk hk⟩
def Ky{B B':St->Option (sa×St)}(hB:∀S x,B S=some x->B' S=some x):∀{n m:Nat},n<=m->∀{S:St} {x:sa×St},iter B n S=some x->iter B' m S=some x
 |0,_,_,_,_,h=>by simp[iter]at h
 |n+1,m,mT,S,x,h=>by
  obtain⟨k,rfl⟩:∃k,m=k+1:=⟨m-1,by omega⟩
  simp only[iter]at h ⊢;cases hb:B S with
  |none=>simp[hb]at h
  |some y =>
   rw[hB _ _ hb];rw[hb]at h;obtain⟨e,S1⟩:=y;cases e with
   |normal=>exact Ky hB (by omega) h
   |exit i=>exact h
   |ret=>exact h
variable{C C':bI}
def aoK(hC:∀f args G r,C f args G=some r->C' f args G=some r){os:List cf}{S S':St}(h:iZ C os S=some S'):iZ C' os S=some S':=by
 obtain⟨N,hN⟩:=TN (Cm:=λ_=>C') (L:=C) (λf args G r h=>⟨0,λ_ _=>hC f args G r h⟩) h;exact hN N (b8 _)
def Dx{C C':bI}(hC:∀f args G r,C f args G=some r->C' f args G=some r){n m:Nat}(mT:n<=m):∀{c:VC} {S:St} {x:sa×St},VC.run C n c S=some x->VC.run C' m c S=some x
 |.skip,_,_,h=>h
 |.exit _,_,_,h=>h
 |.ret,_,_,h=>h
 |.Es _,_,_,h=>h
 |.dead,_,_,h=>by simp[VC.run]at h
 |.region gh ids ops keep,S,x,h=>by
  simp only[VC.run]at h ⊢;cases h1:qh gh S with
  |none=>simp[h1]at h
  |some S1 =>
   simp only[h1]at h ⊢;cases h2:S1.clean ids with
   |none=>simp[h2]at h
   |some S2 =>
    simp only[h2]at h ⊢;cases h3:iZ C ops S2 with
    |none=>simp[h3]at h
    |some S3 =>
     rw[aoK hC h3];rw[h3]at h;exact h
 |.seq a b,S,x,h=>by
  simp only[VC.run]at h ⊢;cases h1:VC.run C n a S with
  |none=>simp[h1]at h
  |some y =>
   rw[Dx hC mT h1];rw[h1]at h;obtain⟨e,S1⟩:=y;cases e with
   |normal=>exact Dx hC mT (c:=b) h
   |exit i=>exact h
   |ret=>exact h
 |.cond c a b,S,x,h=>by
  simp only[VC.run]at h ⊢;cases hc:S.ev c with
  |none=>simp[hc]at h
  |some v =>
   rw[hc]at h;cases v with
   |bool t =>
    cases t with
    |true=>simp only[bW]at h ⊢;exact Dx hC mT h
    |false=>simp only[gL]at h ⊢;exact Dx hC mT h
   |_=>simp at h
 |.block id a,S,x,h=>by
  simp only[VC.run]at h ⊢;cases h1:VC.run C n a S with
  |none=>simp[h1]at h
  |some y =>
   rw[Dx hC mT h1];rw[h1]at h;exact h
 |.loop gh keep a,S,x,h=>by
  simp only[VC.run]at h ⊢;cases h1:qh gh S with
  |none=>simp[h1]at h
  |some S1 =>
   simp only[h1]at h ⊢;exact Ky (λS x hx=>Dx hC mT hx) mT h
variable{n:Nat}{vf:bb}{args:List V}{G:List aM}{r:V×List aM}
def Kz{Cm:Nat->bI}{L:bI}(hL:Kx Cm L)(h:vf.call L n args G=some r):∃N,∀m k,N<=m->N<=k->vf.call (Cm m) k args G=some r:=by
 unfold bb.call at h ⊢;cases ha:args.length==vf.nparams with
 |false=>simp[ha]at h
 |true =>
  simp only[ha,bW]at h ⊢;cases h1:VC.run L n vf.body { env:=sM 0 args,aY:=[],bo:=[],aC:=G } with
  |none=>simp[h1]at h
  |some y =>
   obtain⟨N,hN⟩:=EY hL h1;refine⟨N,λm k hm hk=>?_⟩;rw[hN m k hm hk];rw[h1]at h;exact h
variable{m:Nat}
def aoL(hC:∀f args G r,C f args G=some r->C' f args G=some r)(mT:n<=m)(h:vf.call C n args G=some r):vf.call C' m args G=some r:=by
 unfold bb.call at h ⊢;cases ha:args.length==vf.nparams with
 |false=>simp[ha]at h
 |true =>
  simp only[ha,bW]at h ⊢;cases h1:VC.run C n vf.body { env:=sM 0 args,aY:=[],bo:=[],aC:=G } with
  |none=>simp[h1]at h
  |some y =>
   rw[Dx hC mT h1];rw[h1]at h;exact h
def abt{C C':bI}(hC:∀f args G r,C f args G=some r->C' f args G=some r){args:List V}:∀{l:List FuncId} {G G':List aM},sN C args l G=some G'->sN C' args l G=some G'
 |[],G,G',h=>h
 |f::l,G,G',h=>by
  simp only[sN]at h ⊢;split at h
  next r G1 hc=>
   rw[hC _ _ _ _ hc];exact abt hC h
  .cases h
def aoM(hC:∀f args G r,C f args G=some r->C' f args G=some r){o o':Option (V×List aM)}(ho:∀r,o=some r->o'=some r)
  (h:wrap C vf args o=some r):wrap C' vf args o'=some r:=by
 unfold wrap at h ⊢;rcases o with _ | ⟨r1,G1⟩
 .cases h
 .rw[ho _ rfl]
  simp only at h ⊢;cases hd:vf.defs with
  |nil=>rw[hd]at h;exact h
  |cons f fs =>
   rw[hd]at h;simp only at h ⊢;split at h
   .split at h
    next G2 hp=>
     rw[abt hC hp];exact h
    .cases h
   .cases h
def abu{Cm:Nat->bI}{L:bI}(hL:Kx Cm L){args:List V}:∀{l:List FuncId} {G G':List aM},sN L args l G=some G'->∃N,∀m,N<=m->sN (Cm m) args l G=some G'
 |[],G,G',h=>⟨0,λ_ _=>h⟩
 |f::l,G,G',h=>by
  simp only[sN]at h;split at h
  next r G1 hc=>
   obtain⟨N1,h1⟩:=hL _ _ _ _ hc;obtain⟨N2,h2⟩:=abu hL h;refine⟨max N1 N2,λm hm=>?_⟩;simp only[sN];rw[h1 m (by omega)]
   exact h2 m (by omega)
  .cases h
def Ou(hC:∀f args G r,C f args G=some r->C' f args G=some r)(mT:n<=m)(h:vf.one C n args G=some r):vf.one C' m args G=some r :=
 aoM hC (λ_ h=>aoL hC mT h) h
def Ov(hs:vf.split=none):vf.CV C n args G=some r<->vf.one C n args G=some r:=by
 unfold bb.CV;rw[hs]
variable{p:Nat}
def KA(hs:vf.split=some p) :
  vf.CV C n args G=some r<->(∃m,args[p]?=some (.slice none m [])/\vf.one C n (args.set p .cj) G=some r/\vf.one C n (args.set p (.gF m)) G=some r) \/
   ((∀m,args[p]?≠some (.slice none m []))/\vf.one C n args G=some r):=by
 unfold bb.CV;rw[hs];simp only;split
 next m hp=>
  constructor
  .intro h;exact .inl ⟨m,hp,abo h⟩
  .rintro (⟨m',h0,h1,h2⟩ | ⟨h0,_⟩)
   .rw[hp]at h0
    cases h0;unfold bb.both;rw[aJ (h1.trans h2.symm)];exact h1
   .exact absurd hp (h0 m)
 next kI=>
  constructor
  .intro h;exact .inr ⟨λm e=>kI m e,h⟩
  .rintro (⟨m',h0,_⟩ | ⟨_,h⟩)
   .exact absurd h0 (kI m')
   .exact h
def aoP(hC:∀f args G r,C f args G=some r->C' f args G=some r)(mT:n<=m)(h:vf.CV C n args G=some r):vf.CV C' m args G=some r:=by
 cases hs:vf.split with
 |none=>exact(Ov hs).2 (Ou hC mT ((Ov hs).1 h))
 |some p =>
  rcases (KA hs).1 h with⟨k,h0,h1,h2⟩ | ⟨h0,h1⟩
  .exact(KA hs).2 (.inl ⟨k,h0,Ou hC mT h1,Ou hC mT h2⟩)
  .exact(KA hs).2 (.inr ⟨h0,Ou hC mT h1⟩)
def TO(F:FuncId->Option bb):∀n f args G r,call F n f args G=some r->∀m,n<=m->call F m f args G=some r:=by
 intro n;induction n with
 |zero=>intro f args G r h;simp[call]at h
 |succ n ih =>
  intro f args G r h m hm;obtain⟨k,rfl⟩:∃k,m=k+1:=⟨m-1,by omega⟩
  simp only[call]at h ⊢;cases hf:F f with
  |none=>simp[hf]at h
  |some vf =>
   rw[hf]at h;simp only at h ⊢;exact aoP (λf args G r h=>ih f args G r h k (by omega)) (by omega) h
noncomputable def aX(F:FuncId->Option bb):bI:=λf args G=>by
 classical
 exact if h:∃r,∃n,call F n f args G=some r then some h.choose else none
variable{f:FuncId}
def Hv{F:FuncId->Option bb}:aX F f args G=some r<->∃n,call F n f args G=some r:=by
 unfold aX;constructor
 .intro h
  split at h
  next hx=>
   obtain⟨n,hn⟩:=hx.choose_spec;cases h;exact⟨n,hn⟩
  .cases h
 .rintro⟨n,hn⟩
  have hx:∃r,∃n,call F n f args G=some r:=⟨r,n,hn⟩;rw[dif_pos hx];obtain⟨k,hk⟩:=hx.choose_spec;have h1:=TO F n _ _ _ _ hn (n+k) (by omega)
  have h2:=TO F k _ _ _ _ hk (n+k) (by omega)
  rw[h1]at h2;exact h2.symm
def Hw(F:FuncId->Option bb):Kx (call F) (aX F):=λf args G r h=>by
 obtain⟨n,hn⟩:=Hv.1 h;exact⟨n,λm hm=>TO F n _ _ _ _ hn m hm⟩
def abv{F:FuncId->Option bb}(hf:F f=some vf)(hd:vf.defs=[])(hs:vf.split=none)(h:vf.call (aX F) n args G=some r):aX F f args G=some r:=by
 obtain⟨N,hN⟩:=Kz (Hw F) h;refine Hv.2 ⟨N+1,?_⟩;simp only[call,hf];refine(Ov hs).2 ?_;unfold bb.one;rw[Kr hd];exact hN N N (b8 _) (b8 _)
def aoQ{F:FuncId->Option bb}(hf:F f=some vf){k:Nat}(hd:vf.defs=[])(hs:vf.split=some p)(hp:args[p]?=some (.slice none m []))
  (h:vf.call (aX F) n (args.set p .cj) G=some r) (h':vf.call (aX F) k (args.set p (.gF m)) G=some r):aX F f args G=some r:=by
 obtain⟨N,hN⟩:=Kz (Hw F) h;obtain⟨M,hM⟩:=Kz (Hw F) h';refine Hv.2 ⟨max N M+1,?_⟩;simp only[call,hf];refine(KA hs).2 (.inl ⟨m,hp,?_,?_⟩)
 .unfold bb.one
  rw[Kr hd];exact hN _ _ (by omega) (by omega)
 .unfold bb.one
  rw[Kr hd];exact hM _ _ (by omega) (by omega)
def abw{F:FuncId->Option bb}(hf:F f=some vf)(hd:vf.defs=[])(hs:vf.split=some p)(hp:∀m,args[p]?≠some (.slice none m []))
  (h:vf.call (aX F) n args G=some r):aX F f args G=some r:=by
 obtain⟨N,hN⟩:=Kz (Hw F) h;refine Hv.2 ⟨N+1,?_⟩;simp only[call,hf];refine(KA hs).2 (.inr ⟨hp,?_⟩);unfold bb.one;rw[Kr hd];exact hN N N (b8 _) (b8 _)
def abx{F:FuncId->Option bb}(hf:F f=some vf){i off:Nat}{G1 G2:List aM}{r:V}(hd:vf.defs≠[])(hs:vf.split=none)(h:vf.call (aX F) n [.bu i off] G=some (r,G1))(hp:sN (aX F) [.bu i off] vf.defs.reverse G1=some G2) :
  aX F f [.bu i off] G=some (.tuple [],G2):=by
 obtain⟨N,hN⟩:=Kz (Hw F) h;obtain⟨M,hM⟩:=abu (Hw F) hp;refine Hv.2 ⟨max N M+1,?_⟩;simp only[call,hf];refine(Ov hs).2 ?_;unfold bb.one;rw[hN (max N M) (max N M) (by omega) (by omega)]
 unfold wrap;have hM:=hM (max N M) (by omega)
 cases Hu:vf.defs with
 |nil=>exact absurd Hu hd
 |cons f fs =>
  rw[Hu]at hM;simp only[hM]
def aoR{P:Program}{T:Pk}{F:FuncId->Option bb}(h:∀n,sj P T (call F n)):sj P T (aX F):=λf args G r G' hr=>by
 obtain⟨n,hn⟩:=Hv.1 hr;exact h n f args G r G' hn

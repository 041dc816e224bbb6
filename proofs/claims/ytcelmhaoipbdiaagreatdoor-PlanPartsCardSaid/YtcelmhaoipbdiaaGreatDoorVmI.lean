/- The value machine, 18: the evaluator without fuel. -/
import Derived.Test.YtcelmhaoipbdiaaGreatDoorVmH
namespace Go.Vm
set_option linter.all false
def Gg(Cm:Nat→br)(L:br):Prop:=∀f args G r,L f args G=some r→∃N,∀m,N≤m→Cm m f args G=some r
section
variable {Cm:Nat→br} {L:br} (hL:Gg Cm L)
include hL
theorem UW{d:Option Nat}{S S':St}{vo:VO}(h:vo.run L d S=some S'):∃N,∀m,N≤m→vo.run (Cm m) d S=some S':=by
 cases vo with
 |call alone f args reg =>
  cases alone with
  |false =>
   simp only[VO.run]at h ⊢;cases hf:S.ev f with
   |none=>simp[hf]at h
   |some fv =>
    cases ha:mB S args with
    |none=>cases fv<;>simp[hf,ha]at h
    |some vs =>
     cases fv with
     |fn g cap =>
      simp only[hf,ha]at h ⊢;cases hc:L g (vs++cap) S.ay with
      |none=>simp[hc]at h
      |some r =>
       obtain⟨N,hN⟩:=hL _ _ _ _ hc;refine⟨N,fun m hm=>?_⟩;rw[hN m hm];rw[hc]at h;exact h
     |_=>simp[hf,ha]at h
  |true =>
   simp only[VO.run]at h ⊢;cases hf:S.ev f with
   |none=>simp[hf]at h
   |some fv =>
    cases ha:mC S args with
    |none=>cases fv with
     |fn g cap=>cases cap<;>simp[hf,ha]at h
     |_=>simp[hf,ha]at h
    |some vs =>
     cases fv with
     |fn g cap =>
      cases cap with
      |nil =>
       simp only[hf,ha]at h ⊢;cases hc:L g vs [] with
       |none=>simp[hc]at h
       |some r =>
        obtain⟨N,hN⟩:=hL _ _ _ _ hc;refine⟨N,fun m hm=>?_⟩;rw[hN m hm];rw[hc]at h;exact h
      |cons a b=>simp[hf,ha]at h
     |_=>simp[hf,ha]at h
 |qE f args =>
  simp only[VO.run]at h ⊢;cases hf:S.ev f with
  |none=>simp[hf]at h
  |some fv =>
   cases ha:mB S args with
   |none=>cases fv<;>simp[hf,ha]at h
   |some vs =>
    cases fv with
    |fn g cap =>
     simp only[hf,ha]at h ⊢;cases hc:L g (vs++cap) S.ay with
     |none=>simp[hc]at h
     |some r =>
      obtain⟨N,hN⟩:=hL _ _ _ _ hc;refine⟨N,fun m hm=>?_⟩;rw[hN m hm];rw[hc]at h;exact h
    |_=>simp[hf,ha]at h
 |own f args ids id pos =>
  simp only[VO.run]at h ⊢;cases hf:S.ev f with
  |none=>simp[hf]at h
  |some fv =>
   cases ha:kW S ids args with
   |none=>cases fv with
    |fn g cap=>cases cap<;>simp[hf,ha]at h
    |_=>simp[hf,ha]at h
   |some vs =>
    cases fv with
    |fn g cap =>
     cases cap with
     |nil =>
      simp only[hf,ha]at h ⊢;cases hc:L g vs [] with
      |none=>simp[hc]at h
      |some r =>
       obtain⟨N,hN⟩:=hL _ _ _ _ hc;refine⟨N,fun m hm=>?_⟩;rw[hN m hm];rw[hc]at h;exact h
     |cons a b=>simp[hf,ha]at h
    |_=>simp[hf,ha]at h
 |qG f args id =>
  simp only[VO.run]at h ⊢;cases hf:S.ev f with
  |none=>simp[hf]at h
  |some fv =>
   cases ha:mC S args with
   |none=>cases fv with
    |fn g cap=>cases cap<;>simp[hf,ha]at h
    |_=>simp[hf,ha]at h
   |some vs =>
    cases fv with
    |fn g cap =>
     cases cap with
     |nil =>
      simp only[hf,ha]at h ⊢;cases hc:L g vs [] with
      |none=>simp[hc]at h
      |some r =>
       obtain⟨N,hN⟩:=hL _ _ _ _ hc;refine⟨N,fun m hm=>?_⟩;rw[hN m hm];rw[hc]at h;exact h
     |cons a b=>simp[hf,ha]at h
    |_=>simp[hf,ha]at h
 |qF f args ids =>
  simp only[VO.run]at h ⊢;cases hf:S.ev f with
  |none=>simp[hf]at h
  |some fv =>
   cases ha:kW S ids args with
   |none=>cases fv with
    |fn g cap=>cases cap<;>simp[hf,ha]at h
    |_=>simp[hf,ha]at h
   |some vs =>
    cases fv with
    |fn g cap =>
     cases cap with
     |nil =>
      simp only[hf,ha]at h ⊢;cases hc:L g vs [] with
      |none=>simp[hc]at h
      |some r =>
       obtain⟨N,hN⟩:=hL _ _ _ _ hc;refine⟨N,fun m hm=>?_⟩;rw[hN m hm];rw[hc]at h;exact h
     |cons a b=>simp[hf,ha]at h
    |_=>simp[hf,ha]at h
 |nx arr _ _ _=>cases arr<;>exact⟨0,fun m _=>h⟩
 |_=>exact⟨0,fun m _=>h⟩
theorem afS{S S':St}{o:bA}(h:o.run L S=some S'):∃N,∀m,N≤m→o.run (Cm m) S=some S':=by
 unfold bA.run at h ⊢;cases hg:o.guard with
 |none=>rw[hg]at h;exact UW hL h
 |some q =>
  obtain⟨g,want⟩:=q;rw[hg]at h;simp only at h ⊢;cases hl:look g S.env with
  |none=>simp[hl]at h
  |some v =>
   rw[hl]at h;cases v with
   |bool b =>
    simp only at h ⊢;cases hb:b==want with
    |true=>rw[hb]at h;simp only[bC]at h ⊢;exact UW hL h
    |false=>rw[hb]at h;simp only[eV]at h ⊢;exact⟨0,fun _ _=>h⟩
   |_=>exact⟨0,fun _ _=>h⟩
theorem N8:∀{os:List bA} {S S':St},gQ L os S=some S'→∃N,∀m,N≤m→gQ (Cm m) os S=some S'
 |[],_,_,h=>⟨0,fun _ _=>h⟩
 |o::os,S,S',h=>by
  simp only[gQ]at h ⊢;cases ho:o.run L S with
  |none=>simp[ho]at h
  |some S1 =>
   rw[ho]at h;obtain⟨N,hN⟩:=afS hL ho;obtain⟨M,hM⟩:=N8 h;refine⟨N+M,fun m hm=>?_⟩;rw[hN m (by omega)]
   exact hM m (by omega)
end
theorem UX{Bm:Nat→Nat→St→Option (oO×St)}{B:St→Option (oO×St)}(hB:∀S x,B S=some x→∃N,∀m k,N≤m→N≤k→Bm m k S=some x) :
  ∀{n:Nat} {S:St} {x:oO×St},iter B n S=some x→∃N,∀m k j,N≤m→N≤k→N≤j→iter (Bm m k) j S=some x
 |0,_,_,h=>by simp[iter]at h
 |n+1,S,x,h=>by
  simp only[iter]at h;cases hb:B S with
  |none=>simp[hb]at h
  |some y =>
   obtain⟨N,hN⟩:=hB _ _ hb;rw[hb]at h;obtain⟨e,S1⟩:=y;cases e with
   |normal =>
    simp only at h;obtain⟨M,hM⟩:=UX hB h;refine⟨N+M+1,fun m k j hm hk hj=>?_⟩;obtain⟨i,rfl⟩:∃i,j=i+1:=⟨j-1,by omega⟩
    simp only[iter];rw[hN _ _ (by omega) (by omega)]
    exact hM m k i (by omega) (by omega) (by omega)
   |exit i =>
    refine⟨N+1,fun m k j hm hk hj=>?_⟩;obtain⟨i,rfl⟩:∃i,j=i+1:=⟨j-1,by omega⟩
    simp only[iter];rw[hN _ _ (by omega) (by omega)]
    exact h
   |ret =>
    refine⟨N+1,fun m k j hm hk hj=>?_⟩;obtain⟨i,rfl⟩:∃i,j=i+1:=⟨j-1,by omega⟩
    simp only[iter];rw[hN _ _ (by omega) (by omega)]
    exact h
theorem BC{Cm:Nat→br}{L:br}(hL:Gg Cm L){n:Nat}:∀{c:VC} {S:St} {x:oO×St},VC.run L n c S=some x→∃N,∀m k,N≤m→N≤k→VC.run (Cm m) k c S=some x
 |.skip,_,_,h=>⟨0,fun _ _ _ _=>h⟩
 |.exit _,_,_,h=>⟨0,fun _ _ _ _=>h⟩
 |.ret,_,_,h=>⟨0,fun _ _ _ _=>h⟩
 |.A2 _,_,_,h=>⟨0,fun _ _ _ _=>h⟩
 |.dead,_,_,h=>by simp[VC.run]at h
 |.region gh ids ops keep,S,x,h=>by
  simp only[VC.run]at h ⊢;cases h1:nA gh S with
  |none=>simp[h1]at h
  |some S1 =>
   simp only[h1]at h ⊢;cases h2:S1.clean ids with
   |none=>simp[h2]at h
   |some S2 =>
    simp only[h2]at h ⊢;cases h3:gQ L ops S2 with
    |none=>simp[h3]at h
    |some S3 =>
     obtain⟨N,hN⟩:=N8 hL h3;refine⟨N,fun m k hm hk=>?_⟩;rw[hN m hm];rw[h3]at h;exact h
 |.seq a b,S,x,h=>by
  simp only[VC.run]at h ⊢;cases h1:VC.run L n a S with
  |none=>simp[h1]at h
  |some y =>
   obtain⟨N,hN⟩:=BC hL h1;rw[h1]at h;obtain⟨e,S1⟩:=y;cases e with
   |normal =>
    obtain⟨M,hM⟩:=BC hL (c:=b) h;refine⟨N+M,fun m k hm hk=>?_⟩;rw[hN m k (by omega) (by omega)]
    exact hM m k (by omega) (by omega)
   |exit i =>
    refine⟨N,fun m k hm hk=>?_⟩;rw[hN m k (by omega) (by omega)]
    exact h
   |ret =>
    refine⟨N,fun m k hm hk=>?_⟩;rw[hN m k (by omega) (by omega)]
    exact h
 |.cond c a b,S,x,h=>by
  simp only[VC.run]at h ⊢;cases hc:S.ev c with
  |none=>simp[hc]at h
  |some v =>
   rw[hc]at h;cases v with
   |bool t =>
    cases t with
    |true=>simp only[bC]at h ⊢;exact BC hL h
    |false=>simp only[eV]at h ⊢;exact BC hL h
   |_=>simp at h
 |.block id a,S,x,h=>by
  simp only[VC.run]at h ⊢;cases h1:VC.run L n a S with
  |none=>simp[h1]at h
  |some y =>
   obtain⟨N,hN⟩:=BC hL h1;refine⟨N,fun m k hm hk=>?_⟩;rw[hN m k hm hk];rw[h1]at h;exact h
 |.loop gh keep a,S,x,h=>by
  simp only[VC.run]at h ⊢;cases h1:nA gh S with
  |none=>simp[h1]at h
  |some S1 =>
   simp only[h1]at h ⊢;obtain⟨N,hN⟩:=UX (Bm:=fun m k S=>VC.run (Cm m) k a (S.keep keep)) (fun S x hx=>BC hL hx) h;exact⟨N,fun m k hm hk=>hN m k k hm hk hk⟩
theorem Gi{B B':St→Option (oO×St)}(hB:∀S x,B S=some x→B' S=some x):∀{n m:Nat},n≤m→∀{S:St} {x:oO×St},iter B n S=some x→iter B' m S=some x
 |0,_,_,_,_,h=>by simp[iter]at h
 |n+1,m,kN,S,x,h=>by
  obtain⟨k,rfl⟩:∃k,m=k+1:=⟨m-1,by omega⟩
  simp only[iter]at h ⊢;cases hb:B S with
  |none=>simp[hb]at h
  |some y =>
   rw[hB _ _ hb];rw[hb]at h;obtain⟨e,S1⟩:=y;cases e with
   |normal=>exact Gi hB (by omega) h
   |exit i=>exact h
   |ret=>exact h
theorem afT{C C':br}(hC:∀f args G r,C f args G=some r→C' f args G=some r){os:List bA}{S S':St}(h:gQ C os S=some S'):gQ C' os S=some S':=by
 obtain⟨N,hN⟩:=N8 (Cm:=fun _=>C') (L:=C) (fun f args G r h=>⟨0,fun _ _=>hC f args G r h⟩) h;exact hN N (bR _)
theorem Ah{C C':br}(hC:∀f args G r,C f args G=some r→C' f args G=some r){n m:Nat}(kN:n≤m):∀{c:VC} {S:St} {x:oO×St},VC.run C n c S=some x→VC.run C' m c S=some x
 |.skip,_,_,h=>h
 |.exit _,_,_,h=>h
 |.ret,_,_,h=>h
 |.A2 _,_,_,h=>h
 |.dead,_,_,h=>by simp[VC.run]at h
 |.region gh ids ops keep,S,x,h=>by
  simp only[VC.run]at h ⊢;cases h1:nA gh S with
  |none=>simp[h1]at h
  |some S1 =>
   simp only[h1]at h ⊢;cases h2:S1.clean ids with
   |none=>simp[h2]at h
   |some S2 =>
    simp only[h2]at h ⊢;cases h3:gQ C ops S2 with
    |none=>simp[h3]at h
    |some S3 =>
     rw[afT hC h3];rw[h3]at h;exact h
 |.seq a b,S,x,h=>by
  simp only[VC.run]at h ⊢;cases h1:VC.run C n a S with
  |none=>simp[h1]at h
  |some y =>
   rw[Ah hC kN h1];rw[h1]at h;obtain⟨e,S1⟩:=y;cases e with
   |normal=>exact Ah hC kN (c:=b) h
   |exit i=>exact h
   |ret=>exact h
 |.cond c a b,S,x,h=>by
  simp only[VC.run]at h ⊢;cases hc:S.ev c with
  |none=>simp[hc]at h
  |some v =>
   rw[hc]at h;cases v with
   |bool t =>
    cases t with
    |true=>simp only[bC]at h ⊢;exact Ah hC kN h
    |false=>simp only[eV]at h ⊢;exact Ah hC kN h
   |_=>simp at h
 |.block id a,S,x,h=>by
  simp only[VC.run]at h ⊢;cases h1:VC.run C n a S with
  |none=>simp[h1]at h
  |some y =>
   rw[Ah hC kN h1];rw[h1]at h;exact h
 |.loop gh keep a,S,x,h=>by
  simp only[VC.run]at h ⊢;cases h1:nA gh S with
  |none=>simp[h1]at h
  |some S1 =>
   simp only[h1]at h ⊢;exact Gi (fun S x hx=>Ah hC kN hx) kN h
theorem Gj{Cm:Nat→br}{L:br}(hL:Gg Cm L){n:Nat}{vf:bc}{args:List V}{G:List aT}{r:V×List aT}(h:vf.call L n args G=some r):∃N,∀m k,N≤m→N≤k→vf.call (Cm m) k args G=some r:=by
 unfold bc.call at h ⊢;cases ha:args.length==vf.nparams with
 |false=>simp[ha]at h
 |true =>
  simp only[ha,bC]at h ⊢;cases h1:VC.run L n vf.body { env:=pA 0 args,aW:=[],bf:=[],ay:=G } with
  |none=>simp[h1]at h
  |some y =>
   obtain⟨N,hN⟩:=BC hL h1;refine⟨N,fun m k hm hk=>?_⟩;rw[hN m k hm hk];rw[h1]at h;exact h
theorem afU{C C':br}(hC:∀f args G r,C f args G=some r→C' f args G=some r){n m:Nat}(kN:n≤m){vf:bc}{args:List V}{G:List aT}{r:V×List aT}(h:vf.call C n args G=some r):vf.call C' m args G=some r:=by
 unfold bc.call at h ⊢;cases ha:args.length==vf.nparams with
 |false=>simp[ha]at h
 |true =>
  simp only[ha,bC]at h ⊢;cases h1:VC.run C n vf.body { env:=pA 0 args,aW:=[],bf:=[],ay:=G } with
  |none=>simp[h1]at h
  |some y =>
   rw[Ah hC kN h1];rw[h1]at h;exact h
theorem UZ{C C':br}(hC:∀f args G r,C f args G=some r→C' f args G=some r){args:List V}:∀{l:List FuncId} {G G':List aT},pB C args l G=some G'→pB C' args l G=some G'
 |[],G,G',h=>h
 |f::l,G,G',h=>by
  simp only[pB]at h ⊢;split at h
  ·rename_i r G1 hc
   rw[hC _ _ _ _ hc];exact UZ hC h
  ·cases h
theorem afV{C C':br}(hC:∀f args G r,C f args G=some r→C' f args G=some r){vf:bc}{args:List V}{o o':Option (V×List aT)}(ho:∀r,o=some r→o'=some r){r:V×List aT}
  (h:wrap C vf args o=some r):wrap C' vf args o'=some r:=by
 unfold wrap at h ⊢;rcases o with _ | ⟨r1,G1⟩
 ·cases h
 ·rw[ho _ rfl]
  simp only at h ⊢;cases hd:vf.defs with
  |nil=>rw[hd]at h;exact h
  |cons f fs =>
   rw[hd]at h;simp only at h ⊢;split at h
   ·split at h
    ·rename_i G2 hp
     rw[UZ hC hp];exact h
    ·cases h
   ·cases h
theorem U0{Cm:Nat→br}{L:br}(hL:Gg Cm L){args:List V}:∀{l:List FuncId} {G G':List aT},pB L args l G=some G'→∃N,∀m,N≤m→pB (Cm m) args l G=some G'
 |[],G,G',h=>⟨0,fun _ _=>h⟩
 |f::l,G,G',h=>by
  simp only[pB]at h;split at h
  ·rename_i r G1 hc
   obtain⟨N1,h1⟩:=hL _ _ _ _ hc;obtain⟨N2,h2⟩:=U0 hL h;refine⟨max N1 N2,fun m hm=>?_⟩;simp only[pB];rw[h1 m (by omega)]
   exact h2 m (by omega)
  ·cases h
theorem JL{C C':br}(hC:∀f args G r,C f args G=some r→C' f args G=some r){n m:Nat}(kN:n≤m){vf:bc}{args:List V}{G:List aT}{r:V×List aT}(h:vf.one C n args G=some r):vf.one C' m args G=some r :=
 afV hC (fun _ h=>afU hC kN h) h
theorem JM{C:br}{n:Nat}{vf:bc}{args:List V}{G:List aT}{r:V×List aT}(hs:vf.split=none):vf.zJ C n args G=some r↔vf.one C n args G=some r:=by
 unfold bc.zJ;rw[hs]
theorem Gk{C:br}{n:Nat}{vf:bc}{args:List V}{G:List aT}{r:V×List aT}{p:Nat}(hs:vf.split=some p) :
  vf.zJ C n args G=some r↔(∃m,args[p]?=some (.slice none m [])∧vf.one C n (args.set p .b9) G=some r∧vf.one C n (args.set p (.fx m)) G=some r) ∨
   ((∀m,args[p]?≠some (.slice none m []))∧vf.one C n args G=some r):=by
 unfold bc.zJ;rw[hs];simp only;split
 ·rename_i m hp
  constructor
  ·intro h;exact .inl ⟨m,hp,UU h⟩
  ·rintro (⟨m',h0,h1,h2⟩ | ⟨h0,_⟩)
   ·rw[hp]at h0
    cases h0;unfold bc.both;rw[aP (h1.trans h2.symm)];exact h1
   ·exact absurd hp (h0 m)
 ·rename_i ji
  constructor
  ·intro h;exact .inr ⟨fun m e=>ji m e,h⟩
  ·rintro (⟨m',h0,_⟩ | ⟨_,h⟩)
   ·exact absurd h0 (ji m')
   ·exact h
theorem afY{C C':br}(hC:∀f args G r,C f args G=some r→C' f args G=some r){n m:Nat}(kN:n≤m){vf:bc}{args:List V}{G:List aT}{r:V×List aT}(h:vf.zJ C n args G=some r):vf.zJ C' m args G=some r:=by
 cases hs:vf.split with
 |none=>exact(JM hs).2 (JL hC kN ((JM hs).1 h))
 |some p =>
  rcases (Gk hs).1 h with⟨k,h0,h1,h2⟩ | ⟨h0,h1⟩
  ·exact(Gk hs).2 (.inl ⟨k,h0,JL hC kN h1,JL hC kN h2⟩)
  ·exact(Gk hs).2 (.inr ⟨h0,JL hC kN h1⟩)
theorem N9(F:FuncId→Option bc):∀n f args G r,call F n f args G=some r→∀m,n≤m→call F m f args G=some r:=by
 intro n;induction n with
 |zero=>intro f args G r h;simp[call]at h
 |succ n ih =>
  intro f args G r h m hm;obtain⟨k,rfl⟩:∃k,m=k+1:=⟨m-1,by omega⟩
  simp only[call]at h ⊢;cases hf:F f with
  |none=>simp[hf]at h
  |some vf =>
   rw[hf]at h;simp only at h ⊢;exact afY (fun f args G r h=>ih f args G r h k (by omega)) (by omega) h
noncomputable def bd(F:FuncId→Option bc):br:=fun f args G=>by
 classical
 exact if h:∃r,∃n,call F n f args G=some r then some h.choose else none
theorem Dz{F:FuncId→Option bc}{f:FuncId}{args:List V}{G:List aT}{r:V×List aT}:bd F f args G=some r↔∃n,call F n f args G=some r:=by
 unfold bd;constructor
 ·intro h
  split at h
  ·rename_i hx
   obtain⟨n,hn⟩:=hx.choose_spec;cases h;exact⟨n,hn⟩
  ·cases h
 ·rintro⟨n,hn⟩
  have hx:∃r,∃n,call F n f args G=some r:=⟨r,n,hn⟩;rw[dif_pos hx];obtain⟨k,hk⟩:=hx.choose_spec;have h1:=N9 F n _ _ _ _ hn (n+k) (by omega)
  have h2:=N9 F k _ _ _ _ hk (n+k) (by omega)
  rw[h1]at h2;exact h2.symm
theorem DA(F:FuncId→Option bc):Gg (call F) (bd F):=fun f args G r h=>by
 obtain⟨n,hn⟩:=Dz.1 h;exact⟨n,fun m hm=>N9 F n _ _ _ _ hn m hm⟩
theorem U3{F:FuncId→Option bc}{f:FuncId}{vf:bc}(hf:F f=some vf){n:Nat}{args:List V}{G:List aT}{r:V×List aT}(hd:vf.defs=[])(hs:vf.split=none)(h:vf.call (bd F) n args G=some r):bd F f args G=some r:=by
 obtain⟨N,hN⟩:=Gj (DA F) h;refine Dz.2 ⟨N+1,?_⟩;simp only[call,hf];refine(JM hs).2 ?_;unfold bc.one;rw[Gb hd];exact hN N N (bR _) (bR _)
theorem afZ{F:FuncId→Option bc}{f:FuncId}{vf:bc}(hf:F f=some vf){n k p m:Nat}{args:List V}{G:List aT}{r:V×List aT}(hd:vf.defs=[])(hs:vf.split=some p)(hp:args[p]?=some (.slice none m []))
  (h:vf.call (bd F) n (args.set p .b9) G=some r) (h':vf.call (bd F) k (args.set p (.fx m)) G=some r):bd F f args G=some r:=by
 obtain⟨N,hN⟩:=Gj (DA F) h;obtain⟨M,hM⟩:=Gj (DA F) h';refine Dz.2 ⟨max N M+1,?_⟩;simp only[call,hf];refine(Gk hs).2 (.inl ⟨m,hp,?_,?_⟩)
 ·unfold bc.one
  rw[Gb hd];exact hN _ _ (by omega) (by omega)
 ·unfold bc.one
  rw[Gb hd];exact hM _ _ (by omega) (by omega)
theorem U4{F:FuncId→Option bc}{f:FuncId}{vf:bc}(hf:F f=some vf){n p:Nat}{args:List V}{G:List aT}{r:V×List aT}(hd:vf.defs=[])(hs:vf.split=some p)(hp:∀m,args[p]?≠some (.slice none m []))
  (h:vf.call (bd F) n args G=some r):bd F f args G=some r:=by
 obtain⟨N,hN⟩:=Gj (DA F) h;refine Dz.2 ⟨N+1,?_⟩;simp only[call,hf];refine(Gk hs).2 (.inr ⟨hp,?_⟩);unfold bc.one;rw[Gb hd];exact hN N N (bR _) (bR _)
theorem U5{F:FuncId→Option bc}{f:FuncId}{vf:bc}(hf:F f=some vf){n i off:Nat}{G G1 G2:List aT}{r:V}(hd:vf.defs≠[])(hs:vf.split=none)(h:vf.call (bd F) n [.bI i off] G=some (r,G1))(hp:pB (bd F) [.bI i off] vf.defs.reverse G1=some G2) :
  bd F f [.bI i off] G=some (.tuple [],G2):=by
 obtain⟨N,hN⟩:=Gj (DA F) h;obtain⟨M,hM⟩:=U0 (DA F) hp;refine Dz.2 ⟨max N M+1,?_⟩;simp only[call,hf];refine(JM hs).2 ?_;unfold bc.one;rw[hN (max N M) (max N M) (by omega) (by omega)]
 unfold wrap;have hM:=hM (max N M) (by omega)
 cases Dy:vf.defs with
 |nil=>exact absurd Dy hd
 |cons f fs =>
  rw[Dy]at hM;simp only[hM]
theorem af0{P:Program}{T:Pk}{F:FuncId→Option bc}(h:∀n,pN P T (call F n)):pN P T (bd F):=fun f args G r G' hr=>by
 obtain⟨n,hn⟩:=Dz.1 hr;exact h n f args G r G' hn
end Go.Vm

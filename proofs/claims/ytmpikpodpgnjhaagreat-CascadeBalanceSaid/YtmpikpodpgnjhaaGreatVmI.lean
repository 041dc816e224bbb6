/- The value machine, 18: the evaluator without fuel. -/
import Derived.Test.YtmpikpodpgnjhaaGreatVmH
namespace Go.Vm
set_option linter.all false
def CW(Cm:Nat→bC)(L:bC):Prop:=∀f args G r,L f args G=some r→∃N,∀m,N≤m→Cm m f args G=some r
section
variable {Cm:Nat→bC} {L:bC} (hL:CW Cm L)
include hL
theorem PV{d:Option Nat}{S S':St}{vo:VO}(h:vo.run L d S=some S'):∃N,∀m,N≤m→vo.run (Cm m) d S=some S':=by
 cases vo with
 |call alone f args reg =>
  cases alone with
  |false =>
   simp only[VO.run]at h ⊢;cases hf:S.ev f with
   |none=>simp[hf]at h
   |some fv =>
    cases ha:lS S args with
    |none=>cases fv<;>simp[hf,ha]at h
    |some vs =>
     cases fv with
     |fn g cap =>
      simp only[hf,ha]at h ⊢;cases hc:L g (vs++cap) S.az with
      |none=>simp[hc]at h
      |some r =>
       obtain⟨N,hN⟩:=hL _ _ _ _ hc;refine⟨N,fun m hm=>?_⟩;rw[hN m hm];rw[hc]at h;exact h
     |_=>simp[hf,ha]at h
  |true =>
   simp only[VO.run]at h ⊢;cases hf:S.ev f with
   |none=>simp[hf]at h
   |some fv =>
    cases ha:kh S args with
    |none=>cases fv with
     |fn g cap=>cases cap<;>simp[hf,ha]at h
     |_=>simp[hf,ha]at h
    |some vs =>
     cases fv with
     |fn g cap =>
      cases cap with
      |nil =>
       simp only[hf,ha]at h ⊢;cases hc:L g vs [] with
       |none=>simp[hc]at h
       |some r =>
        obtain⟨N,hN⟩:=hL _ _ _ _ hc;refine⟨N,fun m hm=>?_⟩;rw[hN m hm];rw[hc]at h;exact h
      |cons a b=>simp[hf,ha]at h
     |_=>simp[hf,ha]at h
 |mG f args =>
  simp only[VO.run]at h ⊢;cases hf:S.ev f with
  |none=>simp[hf]at h
  |some fv =>
   cases ha:lS S args with
   |none=>cases fv<;>simp[hf,ha]at h
   |some vs =>
    cases fv with
    |fn g cap =>
     simp only[hf,ha]at h ⊢;cases hc:L g (vs++cap) S.az with
     |none=>simp[hc]at h
     |some r =>
      obtain⟨N,hN⟩:=hL _ _ _ _ hc;refine⟨N,fun m hm=>?_⟩;rw[hN m hm];rw[hc]at h;exact h
    |_=>simp[hf,ha]at h
 |own f args id pos =>
  simp only[VO.run]at h ⊢;cases hf:S.ev f with
  |none=>simp[hf]at h
  |some fv =>
   cases ha:kh S args with
   |none=>cases fv with
    |fn g cap=>cases cap<;>simp[hf,ha]at h
    |_=>simp[hf,ha]at h
   |some vs =>
    cases fv with
    |fn g cap =>
     cases cap with
     |nil =>
      simp only[hf,ha]at h ⊢;cases hc:L g vs [] with
      |none=>simp[hc]at h
      |some r =>
       obtain⟨N,hN⟩:=hL _ _ _ _ hc;refine⟨N,fun m hm=>?_⟩;rw[hN m hm];rw[hc]at h;exact h
     |cons a b=>simp[hf,ha]at h
    |_=>simp[hf,ha]at h
 |pG f args id =>
  simp only[VO.run]at h ⊢;cases hf:S.ev f with
  |none=>simp[hf]at h
  |some fv =>
   cases ha:kh S args with
   |none=>cases fv with
    |fn g cap=>cases cap<;>simp[hf,ha]at h
    |_=>simp[hf,ha]at h
   |some vs =>
    cases fv with
    |fn g cap =>
     cases cap with
     |nil =>
      simp only[hf,ha]at h ⊢;cases hc:L g vs [] with
      |none=>simp[hc]at h
      |some r =>
       obtain⟨N,hN⟩:=hL _ _ _ _ hc;refine⟨N,fun m hm=>?_⟩;rw[hN m hm];rw[hc]at h;exact h
     |cons a b=>simp[hf,ha]at h
    |_=>simp[hf,ha]at h
 |pe f args ids =>
  simp only[VO.run]at h ⊢;cases hf:S.ev f with
  |none=>simp[hf]at h
  |some fv =>
   cases ha:oy S ids args with
   |none=>cases fv with
    |fn g cap=>cases cap<;>simp[hf,ha]at h
    |_=>simp[hf,ha]at h
   |some vs =>
    cases fv with
    |fn g cap =>
     cases cap with
     |nil =>
      simp only[hf,ha]at h ⊢;cases hc:L g vs [] with
      |none=>simp[hc]at h
      |some r =>
       obtain⟨N,hN⟩:=hL _ _ _ _ hc;refine⟨N,fun m hm=>?_⟩;rw[hN m hm];rw[hc]at h;exact h
     |cons a b=>simp[hf,ha]at h
    |_=>simp[hf,ha]at h
 |eg arr _ _ _=>cases arr<;>exact⟨0,fun m _=>h⟩
 |_=>exact⟨0,fun m _=>h⟩
theorem YP{S S':St}{o:bI}(h:o.run L S=some S'):∃N,∀m,N≤m→o.run (Cm m) S=some S':=by
 unfold bI.run at h ⊢;cases hg:o.guard with
 |none=>rw[hg]at h;exact PV hL h
 |some q =>
  obtain⟨g,want⟩:=q;rw[hg]at h;simp only at h ⊢;cases hl:look g S.env with
  |none=>simp[hl]at h
  |some v =>
   rw[hl]at h;cases v with
   |bool b =>
    simp only at h ⊢;cases hb:b==want with
    |true=>rw[hb]at h;simp only[cond_true]at h ⊢;exact PV hL h
    |false=>rw[hb]at h;simp only[cond_false]at h ⊢;exact⟨0,fun _ _=>h⟩
   |_=>exact⟨0,fun _ _=>h⟩
theorem JQ:∀{os:List bI} {S S':St},gO L os S=some S'→∃N,∀m,N≤m→gO (Cm m) os S=some S'
 |[],_,_,h=>⟨0,fun _ _=>h⟩
 |o::os,S,S',h=>by
  simp only[gO]at h ⊢;cases ho:o.run L S with
  |none=>simp[ho]at h
  |some S1 =>
   rw[ho]at h;obtain⟨N,hN⟩:=YP hL ho;obtain⟨M,hM⟩:=JQ h;refine⟨N+M,fun m hm=>?_⟩;rw[hN m (by omega)]
   exact hM m (by omega)
end
theorem PX{Bm:Nat→Nat→St→Option (nU×St)}{B:St→Option (nU×St)}(hB:∀S x,B S=some x→∃N,∀m k,N≤m→N≤k→Bm m k S=some x) :
  ∀{n:Nat} {S:St} {x:nU×St},iter B n S=some x→∃N,∀m k j,N≤m→N≤k→N≤j→iter (Bm m k) j S=some x
 |0,_,_,h=>by simp[iter]at h
 |n+1,S,x,h=>by
  simp only[iter]at h;cases hb:B S with
  |none=>simp[hb]at h
  |some y =>
   obtain⟨N,hN⟩:=hB _ _ hb;rw[hb]at h;obtain⟨e,S1⟩:=y;cases e with
   |normal =>
    simp only at h;obtain⟨M,hM⟩:=PX hB h;refine⟨N+M+1,fun m k j hm hk hj=>?_⟩;obtain⟨i,rfl⟩:∃i,j=i+1:=⟨j-1,by omega⟩
    simp only[iter];rw[hN _ _ (by omega) (by omega)]
    exact hM m k i (by omega) (by omega) (by omega)
   |exit i =>
    refine⟨N+1,fun m k j hm hk hj=>?_⟩;obtain⟨i,rfl⟩:∃i,j=i+1:=⟨j-1,by omega⟩
    simp only[iter];rw[hN _ _ (by omega) (by omega)]
    exact h
   |ret =>
    refine⟨N+1,fun m k j hm hk hj=>?_⟩;obtain⟨i,rfl⟩:∃i,j=i+1:=⟨j-1,by omega⟩
    simp only[iter];rw[hN _ _ (by omega) (by omega)]
    exact h
theorem yy{Cm:Nat→bC}{L:bC}(hL:CW Cm L){n:Nat}:∀{c:VC} {S:St} {x:nU×St},VC.run L n c S=some x→∃N,∀m k,N≤m→N≤k→VC.run (Cm m) k c S=some x
 |.skip,_,_,h=>⟨0,fun _ _ _ _=>h⟩
 |.exit _,_,_,h=>⟨0,fun _ _ _ _=>h⟩
 |.ret,_,_,h=>⟨0,fun _ _ _ _=>h⟩
 |.ue _,_,_,h=>⟨0,fun _ _ _ _=>h⟩
 |.dead,_,_,h=>by simp[VC.run]at h
 |.region gh ids ops keep,S,x,h=>by
  simp only[VC.run]at h ⊢;cases h1:mI gh S with
  |none=>simp[h1]at h
  |some S1 =>
   simp only[h1]at h ⊢;cases h2:S1.clean ids with
   |none=>simp[h2]at h
   |some S2 =>
    simp only[h2]at h ⊢;cases h3:gO L ops S2 with
    |none=>simp[h3]at h
    |some S3 =>
     obtain⟨N,hN⟩:=JQ hL h3;refine⟨N,fun m k hm hk=>?_⟩;rw[hN m hm];rw[h3]at h;exact h
 |.seq a b,S,x,h=>by
  simp only[VC.run]at h ⊢;cases h1:VC.run L n a S with
  |none=>simp[h1]at h
  |some y =>
   obtain⟨N,hN⟩:=yy hL h1;rw[h1]at h;obtain⟨e,S1⟩:=y;cases e with
   |normal =>
    obtain⟨M,hM⟩:=yy hL (c:=b) h;refine⟨N+M,fun m k hm hk=>?_⟩;rw[hN m k (by omega) (by omega)]
    exact hM m k (by omega) (by omega)
   |exit i =>
    refine⟨N,fun m k hm hk=>?_⟩;rw[hN m k (by omega) (by omega)]
    exact h
   |ret =>
    refine⟨N,fun m k hm hk=>?_⟩;rw[hN m k (by omega) (by omega)]
    exact h
 |.cond c a b,S,x,h=>by
  simp only[VC.run]at h ⊢;cases hc:S.ev c with
  |none=>simp[hc]at h
  |some v =>
   rw[hc]at h;cases v with
   |bool t =>
    cases t with
    |true=>simp only[cond_true]at h ⊢;exact yy hL h
    |false=>simp only[cond_false]at h ⊢;exact yy hL h
   |_=>simp at h
 |.block id a,S,x,h=>by
  simp only[VC.run]at h ⊢;cases h1:VC.run L n a S with
  |none=>simp[h1]at h
  |some y =>
   obtain⟨N,hN⟩:=yy hL h1;refine⟨N,fun m k hm hk=>?_⟩;rw[hN m k hm hk];rw[h1]at h;exact h
 |.loop gh keep a,S,x,h=>by
  simp only[VC.run]at h ⊢;cases h1:mI gh S with
  |none=>simp[h1]at h
  |some S1 =>
   simp only[h1]at h ⊢;obtain⟨N,hN⟩:=PX (Bm:=fun m k S=>VC.run (Cm m) k a (S.keep keep)) (fun S x hx=>yy hL hx) h;exact⟨N,fun m k hm hk=>hN m k k hm hk hk⟩
theorem CX{B B':St→Option (nU×St)}(hB:∀S x,B S=some x→B' S=some x):∀{n m:Nat},n≤m→∀{S:St} {x:nU×St},iter B n S=some x→iter B' m S=some x
 |0,_,_,_,_,h=>by simp[iter]at h
 |n+1,m,kq,S,x,h=>by
  obtain⟨k,rfl⟩:∃k,m=k+1:=⟨m-1,by omega⟩
  simp only[iter]at h ⊢;cases hb:B S with
  |none=>simp[hb]at h
  |some y =>
   rw[hB _ _ hb];rw[hb]at h;obtain⟨e,S1⟩:=y;cases e with
   |normal=>exact CX hB (by omega) h
   |exit i=>exact h
   |ret=>exact h
theorem YQ{C C':bC}(hC:∀f args G r,C f args G=some r→C' f args G=some r){os:List bI}{S S':St}(h:gO C os S=some S'):gO C' os S=some S':=by
 obtain⟨N,hN⟩:=JQ (Cm:=fun _=>C') (L:=C) (fun f args G r h=>⟨0,fun _ _=>hC f args G r h⟩) h;exact hN N (Nat.le_refl _)
theorem w8{C C':bC}(hC:∀f args G r,C f args G=some r→C' f args G=some r){n m:Nat}(kq:n≤m):∀{c:VC} {S:St} {x:nU×St},VC.run C n c S=some x→VC.run C' m c S=some x
 |.skip,_,_,h=>h
 |.exit _,_,_,h=>h
 |.ret,_,_,h=>h
 |.ue _,_,_,h=>h
 |.dead,_,_,h=>by simp[VC.run]at h
 |.region gh ids ops keep,S,x,h=>by
  simp only[VC.run]at h ⊢;cases h1:mI gh S with
  |none=>simp[h1]at h
  |some S1 =>
   simp only[h1]at h ⊢;cases h2:S1.clean ids with
   |none=>simp[h2]at h
   |some S2 =>
    simp only[h2]at h ⊢;cases h3:gO C ops S2 with
    |none=>simp[h3]at h
    |some S3 =>
     rw[YQ hC h3];rw[h3]at h;exact h
 |.seq a b,S,x,h=>by
  simp only[VC.run]at h ⊢;cases h1:VC.run C n a S with
  |none=>simp[h1]at h
  |some y =>
   rw[w8 hC kq h1];rw[h1]at h;obtain⟨e,S1⟩:=y;cases e with
   |normal=>exact w8 hC kq (c:=b) h
   |exit i=>exact h
   |ret=>exact h
 |.cond c a b,S,x,h=>by
  simp only[VC.run]at h ⊢;cases hc:S.ev c with
  |none=>simp[hc]at h
  |some v =>
   rw[hc]at h;cases v with
   |bool t =>
    cases t with
    |true=>simp only[cond_true]at h ⊢;exact w8 hC kq h
    |false=>simp only[cond_false]at h ⊢;exact w8 hC kq h
   |_=>simp at h
 |.block id a,S,x,h=>by
  simp only[VC.run]at h ⊢;cases h1:VC.run C n a S with
  |none=>simp[h1]at h
  |some y =>
   rw[w8 hC kq h1];rw[h1]at h;exact h
 |.loop gh keep a,S,x,h=>by
  simp only[VC.run]at h ⊢;cases h1:mI gh S with
  |none=>simp[h1]at h
  |some S1 =>
   simp only[h1]at h ⊢;exact CX (fun S x hx=>w8 hC kq hx) kq h
theorem CY{Cm:Nat→bC}{L:bC}(hL:CW Cm L){n:Nat}{vf:bq}{args:List V}{G:List aW}{r:V×List aW}(h:vf.call L n args G=some r):∃N,∀m k,N≤m→N≤k→vf.call (Cm m) k args G=some r:=by
 unfold bq.call at h ⊢;cases ha:args.length==vf.nparams with
 |false=>simp[ha]at h
 |true =>
  simp only[ha,cond_true]at h ⊢;cases h1:VC.run L n vf.body { env:=oA 0 args,bb:=[],bm:=[],az:=G } with
  |none=>simp[h1]at h
  |some y =>
   obtain⟨N,hN⟩:=yy hL h1;refine⟨N,fun m k hm hk=>?_⟩;rw[hN m k hm hk];rw[h1]at h;exact h
theorem YR{C C':bC}(hC:∀f args G r,C f args G=some r→C' f args G=some r){n m:Nat}(kq:n≤m){vf:bq}{args:List V}{G:List aW}{r:V×List aW}(h:vf.call C n args G=some r):vf.call C' m args G=some r:=by
 unfold bq.call at h ⊢;cases ha:args.length==vf.nparams with
 |false=>simp[ha]at h
 |true =>
  simp only[ha,cond_true]at h ⊢;cases h1:VC.run C n vf.body { env:=oA 0 args,bb:=[],bm:=[],az:=G } with
  |none=>simp[h1]at h
  |some y =>
   rw[w8 hC kq h1];rw[h1]at h;exact h
theorem PZ{C C':bC}(hC:∀f args G r,C f args G=some r→C' f args G=some r){args:List V}:∀{l:List FuncId} {G G':List aW},oB C args l G=some G'→oB C' args l G=some G'
 |[],G,G',h=>h
 |f::l,G,G',h=>by
  simp only[oB]at h ⊢;split at h
  ·rename_i r G1 hc
   rw[hC _ _ _ _ hc];exact PZ hC h
  ·cases h
theorem YS{C C':bC}(hC:∀f args G r,C f args G=some r→C' f args G=some r){vf:bq}{args:List V}{o o':Option (V×List aW)}(ho:∀r,o=some r→o'=some r){r:V×List aW}
  (h:wrap C vf args o=some r):wrap C' vf args o'=some r:=by
 unfold wrap at h ⊢;rcases o with _ | ⟨r1,G1⟩
 ·cases h
 ·rw[ho _ rfl]
  simp only at h ⊢;cases hd:vf.defs with
  |nil=>rw[hd]at h;exact h
  |cons f fs =>
   rw[hd]at h;simp only at h ⊢;split at h
   ·split at h
    ·rename_i G2 hp
     rw[PZ hC hp];exact h
    ·cases h
   ·cases h
theorem YZ{Cm:Nat→bC}{L:bC}(hL:CW Cm L){args:List V}:∀{l:List FuncId} {G G':List aW},oB L args l G=some G'→∃N,∀m,N≤m→oB (Cm m) args l G=some G'
 |[],G,G',h=>⟨0,fun _ _=>h⟩
 |f::l,G,G',h=>by
  simp only[oB]at h;split at h
  ·rename_i r G1 hc
   obtain⟨N1,h1⟩:=hL _ _ _ _ hc;obtain⟨N2,h2⟩:=YZ hL h;refine⟨max N1 N2,fun m hm=>?_⟩;simp only[oB];rw[h1 m (by omega)]
   exact h2 m (by omega)
  ·cases h
theorem FI{C C':bC}(hC:∀f args G r,C f args G=some r→C' f args G=some r){n m:Nat}(kq:n≤m){vf:bq}{args:List V}{G:List aW}{r:V×List aW}(h:vf.one C n args G=some r):vf.one C' m args G=some r :=
 YS hC (fun _ h=>YR hC kq h) h
theorem FJ{C:bC}{n:Nat}{vf:bq}{args:List V}{G:List aW}{r:V×List aW}(hs:vf.split=none):vf.wE C n args G=some r↔vf.one C n args G=some r:=by
 unfold bq.wE;rw[hs]
theorem CZ{C:bC}{n:Nat}{vf:bq}{args:List V}{G:List aW}{r:V×List aW}{p:Nat}(hs:vf.split=some p) :
  vf.wE C n args G=some r↔(∃m,args[p]?=some (.slice none m [])∧vf.one C n (args.set p .aK) G=some r∧vf.one C n (args.set p (.fD m)) G=some r) ∨
   ((∀m,args[p]?≠some (.slice none m []))∧vf.one C n args G=some r):=by
 unfold bq.wE;rw[hs];simp only;split
 ·rename_i m hp
  constructor
  ·intro h;exact .inl ⟨m,hp,PU h⟩
  ·rintro (⟨m',h0,h1,h2⟩ | ⟨h0,_⟩)
   ·rw[hp]at h0
    cases h0;unfold bq.both;rw[if_pos (h1.trans h2.symm)];exact h1
   ·exact absurd hp (h0 m)
 ·rename_i lh
  constructor
  ·intro h;exact .inr ⟨fun m e=>lh m e,h⟩
  ·rintro (⟨m',h0,_⟩ | ⟨_,h⟩)
   ·exact absurd h0 (lh m')
   ·exact h
theorem YV{C C':bC}(hC:∀f args G r,C f args G=some r→C' f args G=some r){n m:Nat}(kq:n≤m){vf:bq}{args:List V}{G:List aW}{r:V×List aW}(h:vf.wE C n args G=some r):vf.wE C' m args G=some r:=by
 cases hs:vf.split with
 |none=>exact(FJ hs).2 (FI hC kq ((FJ hs).1 h))
 |some p =>
  rcases (CZ hs).1 h with⟨k,h0,h1,h2⟩ | ⟨h0,h1⟩
  ·exact(CZ hs).2 (.inl ⟨k,h0,FI hC kq h1,FI hC kq h2⟩)
  ·exact(CZ hs).2 (.inr ⟨h0,FI hC kq h1⟩)
theorem JR(F:FuncId→Option bq):∀n f args G r,call F n f args G=some r→∀m,n≤m→call F m f args G=some r:=by
 intro n;induction n with
 |zero=>intro f args G r h;simp[call]at h
 |succ n ih =>
  intro f args G r h m hm;obtain⟨k,rfl⟩:∃k,m=k+1:=⟨m-1,by omega⟩
  simp only[call]at h ⊢;cases hf:F f with
  |none=>simp[hf]at h
  |some vf =>
   rw[hf]at h;simp only at h ⊢;exact YV (fun f args G r h=>ih f args G r h k (by omega)) (by omega) h
noncomputable def bt(F:FuncId→Option bq):bC:=fun f args G=>by
 classical
 exact if h:∃r,∃n,call F n f args G=some r then some h.choose else none
theorem AP{F:FuncId→Option bq}{f:FuncId}{args:List V}{G:List aW}{r:V×List aW}:bt F f args G=some r↔∃n,call F n f args G=some r:=by
 unfold bt;constructor
 ·intro h
  split at h
  ·rename_i hx
   obtain⟨n,hn⟩:=hx.choose_spec;cases h;exact⟨n,hn⟩
  ·cases h
 ·rintro⟨n,hn⟩
  have hx:∃r,∃n,call F n f args G=some r:=⟨r,n,hn⟩;rw[dif_pos hx];obtain⟨k,hk⟩:=hx.choose_spec;have h1:=JR F n _ _ _ _ hn (n+k) (by omega)
  have h2:=JR F k _ _ _ _ hk (n+k) (by omega)
  rw[h1]at h2;exact h2.symm
theorem AQ(F:FuncId→Option bq):CW (call F) (bt F):=fun f args G r h=>by
 obtain⟨n,hn⟩:=AP.1 h;exact⟨n,fun m hm=>JR F n _ _ _ _ hn m hm⟩
theorem P3{F:FuncId→Option bq}{f:FuncId}{vf:bq}(hf:F f=some vf){n:Nat}{args:List V}{G:List aW}{r:V×List aW}(hd:vf.defs=[])(hs:vf.split=none)(h:vf.call (bt F) n args G=some r):bt F f args G=some r:=by
 obtain⟨N,hN⟩:=CY (AQ F) h;refine AP.2 ⟨N+1,?_⟩;simp only[call,hf];refine(FJ hs).2 ?_;unfold bq.one;rw[CT hd];exact hN N N (Nat.le_refl _) (Nat.le_refl _)
theorem YW{F:FuncId→Option bq}{f:FuncId}{vf:bq}(hf:F f=some vf){n k p m:Nat}{args:List V}{G:List aW}{r:V×List aW}(hd:vf.defs=[])(hs:vf.split=some p)(hp:args[p]?=some (.slice none m []))
  (h:vf.call (bt F) n (args.set p .aK) G=some r) (h':vf.call (bt F) k (args.set p (.fD m)) G=some r):bt F f args G=some r:=by
 obtain⟨N,hN⟩:=CY (AQ F) h;obtain⟨M,hM⟩:=CY (AQ F) h';refine AP.2 ⟨max N M+1,?_⟩;simp only[call,hf];refine(CZ hs).2 (.inl ⟨m,hp,?_,?_⟩)
 ·unfold bq.one
  rw[CT hd];exact hN _ _ (by omega) (by omega)
 ·unfold bq.one
  rw[CT hd];exact hM _ _ (by omega) (by omega)
theorem P4{F:FuncId→Option bq}{f:FuncId}{vf:bq}(hf:F f=some vf){n p:Nat}{args:List V}{G:List aW}{r:V×List aW}(hd:vf.defs=[])(hs:vf.split=some p)(hp:∀m,args[p]?≠some (.slice none m []))
  (h:vf.call (bt F) n args G=some r):bt F f args G=some r:=by
 obtain⟨N,hN⟩:=CY (AQ F) h;refine AP.2 ⟨N+1,?_⟩;simp only[call,hf];refine(CZ hs).2 (.inr ⟨hp,?_⟩);unfold bq.one;rw[CT hd];exact hN N N (Nat.le_refl _) (Nat.le_refl _)
theorem P5{F:FuncId→Option bq}{f:FuncId}{vf:bq}(hf:F f=some vf){n i off:Nat}{G G1 G2:List aW}{r:V}(hd:vf.defs≠[])(hs:vf.split=none)(h:vf.call (bt F) n [.bO i off] G=some (r,G1))(hp:oB (bt F) [.bO i off] vf.defs.reverse G1=some G2) :
  bt F f [.bO i off] G=some (.tuple [],G2):=by
 obtain⟨N,hN⟩:=CY (AQ F) h;obtain⟨M,hM⟩:=YZ (AQ F) hp;refine AP.2 ⟨max N M+1,?_⟩;simp only[call,hf];refine(FJ hs).2 ?_;unfold bq.one;rw[hN (max N M) (max N M) (by omega) (by omega)]
 unfold wrap;have hM:=hM (max N M) (by omega)
 cases AO:vf.defs with
 |nil=>exact absurd AO hd
 |cons f fs =>
  rw[AO]at hM;simp only[hM]
theorem YX{P:Program}{F:FuncId→Option bq}(h:∀n,oN P (call F n)):oN P (bt F):=fun f args G r G' hr=>by
 obtain⟨n,hn⟩:=AP.1 hr;exact h n f args G r G' hn
end Go.Vm

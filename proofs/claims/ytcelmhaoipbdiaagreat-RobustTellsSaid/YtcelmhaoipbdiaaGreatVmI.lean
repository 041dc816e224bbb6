/- The value machine, 18: the evaluator without fuel. -/
import Derived.Test.YtcelmhaoipbdiaaGreatVmH
namespace Go.Vm
set_option linter.all false
def Iw(Cm:Nat→bD)(L:bD):Prop:=∀f args G r,L f args G=some r→∃N,∀m,N≤m→Cm m f args G=some r
section
variable {Cm:Nat→bD} {L:bD} (hL:Iw Cm L)
include hL
theorem YI{d:Option Nat}{S S':St}{vo:VO}(h:vo.run L d S=some S'):∃N,∀m,N≤m→vo.run (Cm m) d S=some S':=by
 cases vo with
 |call alone f args reg =>
  cases alone with
  |false =>
   simp only[VO.run]at h ⊢;cases hf:S.ev f with
   |none=>simp[hf]at h
   |some fv =>
    cases ha:nK S args with
    |none=>cases fv<;>simp[hf,ha]at h
    |some vs =>
     cases fv with
     |fn g cap =>
      simp only[hf,ha]at h ⊢;cases hc:L g (vs++cap) S.aD with
      |none=>simp[hc]at h
      |some r =>
       obtain⟨N,hN⟩:=hL _ _ _ _ hc;refine⟨N,fun m hm=>?_⟩;rw[hN m hm];rw[hc]at h;exact h
     |_=>simp[hf,ha]at h
  |true =>
   simp only[VO.run]at h ⊢;cases hf:S.ev f with
   |none=>simp[hf]at h
   |some fv =>
    cases ha:nL S args with
    |none=>cases fv with
     |fn g cap=>cases cap<;>simp[hf,ha]at h
     |_=>simp[hf,ha]at h
    |some vs =>
     cases fv with
     |fn g cap =>
      cases cap with
      |nil =>
       simp only[hf,ha]at h ⊢;cases hc:L g vs [] with
       |none=>simp[hc]at h
       |some r =>
        obtain⟨N,hN⟩:=hL _ _ _ _ hc;refine⟨N,fun m hm=>?_⟩;rw[hN m hm];rw[hc]at h;exact h
      |cons a b=>simp[hf,ha]at h
     |_=>simp[hf,ha]at h
 |sJ f args =>
  simp only[VO.run]at h ⊢;cases hf:S.ev f with
  |none=>simp[hf]at h
  |some fv =>
   cases ha:nK S args with
   |none=>cases fv<;>simp[hf,ha]at h
   |some vs =>
    cases fv with
    |fn g cap =>
     simp only[hf,ha]at h ⊢;cases hc:L g (vs++cap) S.aD with
     |none=>simp[hc]at h
     |some r =>
      obtain⟨N,hN⟩:=hL _ _ _ _ hc;refine⟨N,fun m hm=>?_⟩;rw[hN m hm];rw[hc]at h;exact h
    |_=>simp[hf,ha]at h
 |own f args ids id pos =>
  simp only[VO.run]at h ⊢;cases hf:S.ev f with
  |none=>simp[hf]at h
  |some fv =>
   cases ha:mq S ids args with
   |none=>cases fv with
    |fn g cap=>cases cap<;>simp[hf,ha]at h
    |_=>simp[hf,ha]at h
   |some vs =>
    cases fv with
    |fn g cap =>
     cases cap with
     |nil =>
      simp only[hf,ha]at h ⊢;cases hc:L g vs [] with
      |none=>simp[hc]at h
      |some r =>
       obtain⟨N,hN⟩:=hL _ _ _ _ hc;refine⟨N,fun m hm=>?_⟩;rw[hN m hm];rw[hc]at h;exact h
     |cons a b=>simp[hf,ha]at h
    |_=>simp[hf,ha]at h
 |sL f args id =>
  simp only[VO.run]at h ⊢;cases hf:S.ev f with
  |none=>simp[hf]at h
  |some fv =>
   cases ha:nL S args with
   |none=>cases fv with
    |fn g cap=>cases cap<;>simp[hf,ha]at h
    |_=>simp[hf,ha]at h
   |some vs =>
    cases fv with
    |fn g cap =>
     cases cap with
     |nil =>
      simp only[hf,ha]at h ⊢;cases hc:L g vs [] with
      |none=>simp[hc]at h
      |some r =>
       obtain⟨N,hN⟩:=hL _ _ _ _ hc;refine⟨N,fun m hm=>?_⟩;rw[hN m hm];rw[hc]at h;exact h
     |cons a b=>simp[hf,ha]at h
    |_=>simp[hf,ha]at h
 |sK f args ids =>
  simp only[VO.run]at h ⊢;cases hf:S.ev f with
  |none=>simp[hf]at h
  |some fv =>
   cases ha:mq S ids args with
   |none=>cases fv with
    |fn g cap=>cases cap<;>simp[hf,ha]at h
    |_=>simp[hf,ha]at h
   |some vs =>
    cases fv with
    |fn g cap =>
     cases cap with
     |nil =>
      simp only[hf,ha]at h ⊢;cases hc:L g vs [] with
      |none=>simp[hc]at h
      |some r =>
       obtain⟨N,hN⟩:=hL _ _ _ _ hc;refine⟨N,fun m hm=>?_⟩;rw[hN m hm];rw[hc]at h;exact h
     |cons a b=>simp[hf,ha]at h
    |_=>simp[hf,ha]at h
 |oJ arr _ _ _=>cases arr<;>exact⟨0,fun m _=>h⟩
 |_=>exact⟨0,fun m _=>h⟩
theorem ak0{S S':St}{o:bK}(h:o.run L S=some S'):∃N,∀m,N≤m→o.run (Cm m) S=some S':=by
 unfold bK.run at h ⊢;cases hg:o.guard with
 |none=>rw[hg]at h;exact YI hL h
 |some q =>
  obtain⟨g,want⟩:=q;rw[hg]at h;simp only at h ⊢;cases hl:look g S.env with
  |none=>simp[hl]at h
  |some v =>
   rw[hl]at h;cases v with
   |bool b =>
    simp only at h ⊢;cases hb:b==want with
    |true=>rw[hb]at h;simp only[bM]at h ⊢;exact YI hL h
    |false=>rw[hb]at h;simp only[fu]at h ⊢;exact⟨0,fun _ _=>h⟩
   |_=>exact⟨0,fun _ _=>h⟩
theorem Q8:∀{os:List bK} {S S':St},iE L os S=some S'→∃N,∀m,N≤m→iE (Cm m) os S=some S'
 |[],_,_,h=>⟨0,fun _ _=>h⟩
 |o::os,S,S',h=>by
  simp only[iE]at h ⊢;cases ho:o.run L S with
  |none=>simp[ho]at h
  |some S1 =>
   rw[ho]at h;obtain⟨N,hN⟩:=ak0 hL ho;obtain⟨M,hM⟩:=Q8 h;refine⟨N+M,fun m hm=>?_⟩;rw[hN m (by omega)]
   exact hM m (by omega)
end
theorem YJ{Bm:Nat→Nat→St→Option (qh×St)}{B:St→Option (qh×St)}(hB:∀S x,B S=some x→∃N,∀m k,N≤m→N≤k→Bm m k S=some x) :
  ∀{n:Nat} {S:St} {x:qh×St},iter B n S=some x→∃N,∀m k j,N≤m→N≤k→N≤j→iter (Bm m k) j S=some x
 |0,_,_,h=>by simp[iter]at h
 |n+1,S,x,h=>by
  simp only[iter]at h;cases hb:B S with
  |none=>simp[hb]at h
  |some y =>
   obtain⟨N,hN⟩:=hB _ _ hb;rw[hb]at h;obtain⟨e,S1⟩:=y;cases e with
   |normal =>
    simp only at h;obtain⟨M,hM⟩:=YJ hB h;refine⟨N+M+1,fun m k j hm hk hj=>?_⟩;obtain⟨i,rfl⟩:∃i,j=i+1:=⟨j-1,by omega⟩
    simp only[iter];rw[hN _ _ (by omega) (by omega)]
    exact hM m k i (by omega) (by omega) (by omega)
   |exit i =>
    refine⟨N+1,fun m k j hm hk hj=>?_⟩;obtain⟨i,rfl⟩:∃i,j=i+1:=⟨j-1,by omega⟩
    simp only[iter];rw[hN _ _ (by omega) (by omega)]
    exact h
   |ret =>
    refine⟨N+1,fun m k j hm hk hj=>?_⟩;obtain⟨i,rfl⟩:∃i,j=i+1:=⟨j-1,by omega⟩
    simp only[iter];rw[hN _ _ (by omega) (by omega)]
    exact h
theorem DB{Cm:Nat→bD}{L:bD}(hL:Iw Cm L){n:Nat}:∀{c:VC} {S:St} {x:qh×St},VC.run L n c S=some x→∃N,∀m k,N≤m→N≤k→VC.run (Cm m) k c S=some x
 |.skip,_,_,h=>⟨0,fun _ _ _ _=>h⟩
 |.exit _,_,_,h=>⟨0,fun _ _ _ _=>h⟩
 |.ret,_,_,h=>⟨0,fun _ _ _ _=>h⟩
 |.CX _,_,_,h=>⟨0,fun _ _ _ _=>h⟩
 |.dead,_,_,h=>by simp[VC.run]at h
 |.region gh ids ops keep,S,x,h=>by
  simp only[VC.run]at h ⊢;cases h1:oM gh S with
  |none=>simp[h1]at h
  |some S1 =>
   simp only[h1]at h ⊢;cases h2:S1.clean ids with
   |none=>simp[h2]at h
   |some S2 =>
    simp only[h2]at h ⊢;cases h3:iE L ops S2 with
    |none=>simp[h3]at h
    |some S3 =>
     obtain⟨N,hN⟩:=Q8 hL h3;refine⟨N,fun m k hm hk=>?_⟩;rw[hN m hm];rw[h3]at h;exact h
 |.seq a b,S,x,h=>by
  simp only[VC.run]at h ⊢;cases h1:VC.run L n a S with
  |none=>simp[h1]at h
  |some y =>
   obtain⟨N,hN⟩:=DB hL h1;rw[h1]at h;obtain⟨e,S1⟩:=y;cases e with
   |normal =>
    obtain⟨M,hM⟩:=DB hL (c:=b) h;refine⟨N+M,fun m k hm hk=>?_⟩;rw[hN m k (by omega) (by omega)]
    exact hM m k (by omega) (by omega)
   |exit i =>
    refine⟨N,fun m k hm hk=>?_⟩;rw[hN m k (by omega) (by omega)]
    exact h
   |ret =>
    refine⟨N,fun m k hm hk=>?_⟩;rw[hN m k (by omega) (by omega)]
    exact h
 |.cond c a b,S,x,h=>by
  simp only[VC.run]at h ⊢;cases hc:S.ev c with
  |none=>simp[hc]at h
  |some v =>
   rw[hc]at h;cases v with
   |bool t =>
    cases t with
    |true=>simp only[bM]at h ⊢;exact DB hL h
    |false=>simp only[fu]at h ⊢;exact DB hL h
   |_=>simp at h
 |.block id a,S,x,h=>by
  simp only[VC.run]at h ⊢;cases h1:VC.run L n a S with
  |none=>simp[h1]at h
  |some y =>
   obtain⟨N,hN⟩:=DB hL h1;refine⟨N,fun m k hm hk=>?_⟩;rw[hN m k hm hk];rw[h1]at h;exact h
 |.loop gh keep a,S,x,h=>by
  simp only[VC.run]at h ⊢;cases h1:oM gh S with
  |none=>simp[h1]at h
  |some S1 =>
   simp only[h1]at h ⊢;obtain⟨N,hN⟩:=YJ (Bm:=fun m k S=>VC.run (Cm m) k a (S.keep keep)) (fun S x hx=>DB hL hx) h;exact⟨N,fun m k hm hk=>hN m k k hm hk hk⟩
theorem Ix{B B':St→Option (qh×St)}(hB:∀S x,B S=some x→B' S=some x):∀{n m:Nat},n≤m→∀{S:St} {x:qh×St},iter B n S=some x→iter B' m S=some x
 |0,_,_,_,_,h=>by simp[iter]at h
 |n+1,m,me,S,x,h=>by
  obtain⟨k,rfl⟩:∃k,m=k+1:=⟨m-1,by omega⟩
  simp only[iter]at h ⊢;cases hb:B S with
  |none=>simp[hb]at h
  |some y =>
   rw[hB _ _ hb];rw[hb]at h;obtain⟨e,S1⟩:=y;cases e with
   |normal=>exact Ix hB (by omega) h
   |exit i=>exact h
   |ret=>exact h
theorem ak1{C C':bD}(hC:∀f args G r,C f args G=some r→C' f args G=some r){os:List bK}{S S':St}(h:iE C os S=some S'):iE C' os S=some S':=by
 obtain⟨N,hN⟩:=Q8 (Cm:=fun _=>C') (L:=C) (fun f args G r h=>⟨0,fun _ _=>hC f args G r h⟩) h;exact hN N (bY _)
theorem BS{C C':bD}(hC:∀f args G r,C f args G=some r→C' f args G=some r){n m:Nat}(me:n≤m):∀{c:VC} {S:St} {x:qh×St},VC.run C n c S=some x→VC.run C' m c S=some x
 |.skip,_,_,h=>h
 |.exit _,_,_,h=>h
 |.ret,_,_,h=>h
 |.CX _,_,_,h=>h
 |.dead,_,_,h=>by simp[VC.run]at h
 |.region gh ids ops keep,S,x,h=>by
  simp only[VC.run]at h ⊢;cases h1:oM gh S with
  |none=>simp[h1]at h
  |some S1 =>
   simp only[h1]at h ⊢;cases h2:S1.clean ids with
   |none=>simp[h2]at h
   |some S2 =>
    simp only[h2]at h ⊢;cases h3:iE C ops S2 with
    |none=>simp[h3]at h
    |some S3 =>
     rw[ak1 hC h3];rw[h3]at h;exact h
 |.seq a b,S,x,h=>by
  simp only[VC.run]at h ⊢;cases h1:VC.run C n a S with
  |none=>simp[h1]at h
  |some y =>
   rw[BS hC me h1];rw[h1]at h;obtain⟨e,S1⟩:=y;cases e with
   |normal=>exact BS hC me (c:=b) h
   |exit i=>exact h
   |ret=>exact h
 |.cond c a b,S,x,h=>by
  simp only[VC.run]at h ⊢;cases hc:S.ev c with
  |none=>simp[hc]at h
  |some v =>
   rw[hc]at h;cases v with
   |bool t =>
    cases t with
    |true=>simp only[bM]at h ⊢;exact BS hC me h
    |false=>simp only[fu]at h ⊢;exact BS hC me h
   |_=>simp at h
 |.block id a,S,x,h=>by
  simp only[VC.run]at h ⊢;cases h1:VC.run C n a S with
  |none=>simp[h1]at h
  |some y =>
   rw[BS hC me h1];rw[h1]at h;exact h
 |.loop gh keep a,S,x,h=>by
  simp only[VC.run]at h ⊢;cases h1:oM gh S with
  |none=>simp[h1]at h
  |some S1 =>
   simp only[h1]at h ⊢;exact Ix (fun S x hx=>BS hC me hx) me h
theorem Iy{Cm:Nat→bD}{L:bD}(hL:Iw Cm L){n:Nat}{vf:bc}{args:List V}{G:List aP}{r:V×List aP}(h:vf.call L n args G=some r):∃N,∀m k,N≤m→N≤k→vf.call (Cm m) k args G=some r:=by
 unfold bc.call at h ⊢;cases ha:args.length==vf.nparams with
 |false=>simp[ha]at h
 |true =>
  simp only[ha,bM]at h ⊢;cases h1:VC.run L n vf.body { env:=qF 0 args,aZ:=[],bl:=[],aD:=G } with
  |none=>simp[h1]at h
  |some y =>
   obtain⟨N,hN⟩:=DB hL h1;refine⟨N,fun m k hm hk=>?_⟩;rw[hN m k hm hk];rw[h1]at h;exact h
theorem ak2{C C':bD}(hC:∀f args G r,C f args G=some r→C' f args G=some r){n m:Nat}(me:n≤m){vf:bc}{args:List V}{G:List aP}{r:V×List aP}(h:vf.call C n args G=some r):vf.call C' m args G=some r:=by
 unfold bc.call at h ⊢;cases ha:args.length==vf.nparams with
 |false=>simp[ha]at h
 |true =>
  simp only[ha,bM]at h ⊢;cases h1:VC.run C n vf.body { env:=qF 0 args,aZ:=[],bl:=[],aD:=G } with
  |none=>simp[h1]at h
  |some y =>
   rw[BS hC me h1];rw[h1]at h;exact h
theorem YL{C C':bD}(hC:∀f args G r,C f args G=some r→C' f args G=some r){args:List V}:∀{l:List FuncId} {G G':List aP},qG C args l G=some G'→qG C' args l G=some G'
 |[],G,G',h=>h
 |f::l,G,G',h=>by
  simp only[qG]at h ⊢;split at h
  ·rename_i r G1 hc
   rw[hC _ _ _ _ hc];exact YL hC h
  ·cases h
theorem ak3{C C':bD}(hC:∀f args G r,C f args G=some r→C' f args G=some r){vf:bc}{args:List V}{o o':Option (V×List aP)}(ho:∀r,o=some r→o'=some r){r:V×List aP}
  (h:wrap C vf args o=some r):wrap C' vf args o'=some r:=by
 unfold wrap at h ⊢;rcases o with _ | ⟨r1,G1⟩
 ·cases h
 ·rw[ho _ rfl]
  simp only at h ⊢;cases hd:vf.defs with
  |nil=>rw[hd]at h;exact h
  |cons f fs =>
   rw[hd]at h;simp only at h ⊢;split at h
   ·split at h
    ·rename_i G2 hp
     rw[YL hC hp];exact h
    ·cases h
   ·cases h
theorem YM{Cm:Nat→bD}{L:bD}(hL:Iw Cm L){args:List V}:∀{l:List FuncId} {G G':List aP},qG L args l G=some G'→∃N,∀m,N≤m→qG (Cm m) args l G=some G'
 |[],G,G',h=>⟨0,fun _ _=>h⟩
 |f::l,G,G',h=>by
  simp only[qG]at h;split at h
  ·rename_i r G1 hc
   obtain⟨N1,h1⟩:=hL _ _ _ _ hc;obtain⟨N2,h2⟩:=YM hL h;refine⟨max N1 N2,fun m hm=>?_⟩;simp only[qG];rw[h1 m (by omega)]
   exact h2 m (by omega)
  ·cases h
theorem L7{C C':bD}(hC:∀f args G r,C f args G=some r→C' f args G=some r){n m:Nat}(me:n≤m){vf:bc}{args:List V}{G:List aP}{r:V×List aP}(h:vf.one C n args G=some r):vf.one C' m args G=some r :=
 ak3 hC (fun _ h=>ak2 hC me h) h
theorem L8{C:bD}{n:Nat}{vf:bc}{args:List V}{G:List aP}{r:V×List aP}(hs:vf.split=none):vf.Br C n args G=some r↔vf.one C n args G=some r:=by
 unfold bc.Br;rw[hs]
theorem Iz{C:bD}{n:Nat}{vf:bc}{args:List V}{G:List aP}{r:V×List aP}{p:Nat}(hs:vf.split=some p) :
  vf.Br C n args G=some r↔(∃m,args[p]?=some (.slice none m [])∧vf.one C n (args.set p .bU) G=some r∧vf.one C n (args.set p (.gd m)) G=some r) ∨
   ((∀m,args[p]?≠some (.slice none m []))∧vf.one C n args G=some r):=by
 unfold bc.Br;rw[hs];simp only;split
 ·rename_i m hp
  constructor
  ·intro h;exact .inl ⟨m,hp,YH h⟩
  ·rintro (⟨m',h0,h1,h2⟩ | ⟨h0,_⟩)
   ·rw[hp]at h0
    cases h0;unfold bc.both;rw[aK (h1.trans h2.symm)];exact h1
   ·exact absurd hp (h0 m)
 ·rename_i kc
  constructor
  ·intro h;exact .inr ⟨fun m e=>kc m e,h⟩
  ·rintro (⟨m',h0,_⟩ | ⟨_,h⟩)
   ·exact absurd h0 (kc m')
   ·exact h
theorem ak6{C C':bD}(hC:∀f args G r,C f args G=some r→C' f args G=some r){n m:Nat}(me:n≤m){vf:bc}{args:List V}{G:List aP}{r:V×List aP}(h:vf.Br C n args G=some r):vf.Br C' m args G=some r:=by
 cases hs:vf.split with
 |none=>exact(L8 hs).2 (L7 hC me ((L8 hs).1 h))
 |some p =>
  rcases (Iz hs).1 h with⟨k,h0,h1,h2⟩ | ⟨h0,h1⟩
  ·exact(Iz hs).2 (.inl ⟨k,h0,L7 hC me h1,L7 hC me h2⟩)
  ·exact(Iz hs).2 (.inr ⟨h0,L7 hC me h1⟩)
theorem Q9(F:FuncId→Option bc):∀n f args G r,call F n f args G=some r→∀m,n≤m→call F m f args G=some r:=by
 intro n;induction n with
 |zero=>intro f args G r h;simp[call]at h
 |succ n ih =>
  intro f args G r h m hm;obtain⟨k,rfl⟩:∃k,m=k+1:=⟨m-1,by omega⟩
  simp only[call]at h ⊢;cases hf:F f with
  |none=>simp[hf]at h
  |some vf =>
   rw[hf]at h;simp only at h ⊢;exact ak6 (fun f args G r h=>ih f args G r h k (by omega)) (by omega) h
noncomputable def aX(F:FuncId→Option bc):bD:=fun f args G=>by
 classical
 exact if h:∃r,∃n,call F n f args G=some r then some h.choose else none
theorem FE{F:FuncId→Option bc}{f:FuncId}{args:List V}{G:List aP}{r:V×List aP}:aX F f args G=some r↔∃n,call F n f args G=some r:=by
 unfold aX;constructor
 ·intro h
  split at h
  ·rename_i hx
   obtain⟨n,hn⟩:=hx.choose_spec;cases h;exact⟨n,hn⟩
  ·cases h
 ·rintro⟨n,hn⟩
  have hx:∃r,∃n,call F n f args G=some r:=⟨r,n,hn⟩;rw[dif_pos hx];obtain⟨k,hk⟩:=hx.choose_spec;have h1:=Q9 F n _ _ _ _ hn (n+k) (by omega)
  have h2:=Q9 F k _ _ _ _ hk (n+k) (by omega)
  rw[h1]at h2;exact h2.symm
theorem FF(F:FuncId→Option bc):Iw (call F) (aX F):=fun f args G r h=>by
 obtain⟨n,hn⟩:=FE.1 h;exact⟨n,fun m hm=>Q9 F n _ _ _ _ hn m hm⟩
theorem YN{F:FuncId→Option bc}{f:FuncId}{vf:bc}(hf:F f=some vf){n:Nat}{args:List V}{G:List aP}{r:V×List aP}(hd:vf.defs=[])(hs:vf.split=none)(h:vf.call (aX F) n args G=some r):aX F f args G=some r:=by
 obtain⟨N,hN⟩:=Iy (FF F) h;refine FE.2 ⟨N+1,?_⟩;simp only[call,hf];refine(L8 hs).2 ?_;unfold bc.one;rw[Is hd];exact hN N N (bY _) (bY _)
theorem ak7{F:FuncId→Option bc}{f:FuncId}{vf:bc}(hf:F f=some vf){n k p m:Nat}{args:List V}{G:List aP}{r:V×List aP}(hd:vf.defs=[])(hs:vf.split=some p)(hp:args[p]?=some (.slice none m []))
  (h:vf.call (aX F) n (args.set p .bU) G=some r) (h':vf.call (aX F) k (args.set p (.gd m)) G=some r):aX F f args G=some r:=by
 obtain⟨N,hN⟩:=Iy (FF F) h;obtain⟨M,hM⟩:=Iy (FF F) h';refine FE.2 ⟨max N M+1,?_⟩;simp only[call,hf];refine(Iz hs).2 (.inl ⟨m,hp,?_,?_⟩)
 ·unfold bc.one
  rw[Is hd];exact hN _ _ (by omega) (by omega)
 ·unfold bc.one
  rw[Is hd];exact hM _ _ (by omega) (by omega)
theorem YO{F:FuncId→Option bc}{f:FuncId}{vf:bc}(hf:F f=some vf){n p:Nat}{args:List V}{G:List aP}{r:V×List aP}(hd:vf.defs=[])(hs:vf.split=some p)(hp:∀m,args[p]?≠some (.slice none m []))
  (h:vf.call (aX F) n args G=some r):aX F f args G=some r:=by
 obtain⟨N,hN⟩:=Iy (FF F) h;refine FE.2 ⟨N+1,?_⟩;simp only[call,hf];refine(Iz hs).2 (.inr ⟨hp,?_⟩);unfold bc.one;rw[Is hd];exact hN N N (bY _) (bY _)
theorem YP{F:FuncId→Option bc}{f:FuncId}{vf:bc}(hf:F f=some vf){n i off:Nat}{G G1 G2:List aP}{r:V}(hd:vf.defs≠[])(hs:vf.split=none)(h:vf.call (aX F) n [.bH i off] G=some (r,G1))(hp:qG (aX F) [.bH i off] vf.defs.reverse G1=some G2) :
  aX F f [.bH i off] G=some (.tuple [],G2):=by
 obtain⟨N,hN⟩:=Iy (FF F) h;obtain⟨M,hM⟩:=YM (FF F) hp;refine FE.2 ⟨max N M+1,?_⟩;simp only[call,hf];refine(L8 hs).2 ?_;unfold bc.one;rw[hN (max N M) (max N M) (by omega) (by omega)]
 unfold wrap;have hM:=hM (max N M) (by omega)
 cases FD:vf.defs with
 |nil=>exact absurd FD hd
 |cons f fs =>
  rw[FD]at hM;simp only[hM]
theorem ak8{P:Program}{T:Pk}{F:FuncId→Option bc}(h:∀n,qm P T (call F n)):qm P T (aX F):=fun f args G r G' hr=>by
 obtain⟨n,hn⟩:=FE.1 hr;exact h n f args G r G' hn
end Go.Vm

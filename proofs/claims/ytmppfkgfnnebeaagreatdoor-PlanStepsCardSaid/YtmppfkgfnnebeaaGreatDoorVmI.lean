/- The value machine, 18: the evaluator without fuel. -/
import Derived.Test.YtmppfkgfnnebeaaGreatDoorVmH
namespace Go.Vm
set_option linter.all false
def Ib(Cm:Nat→bD)(L:bD):Prop:=∀f args G r,L f args G=some r→∃N,∀m,N≤m→Cm m f args G=some r
section
variable {Cm:Nat→bD} {L:bD} (hL:Ib Cm L)
include hL
theorem XX{d:Option Nat}{S S':St}{vo:VO}(h:vo.run L d S=some S'):∃N,∀m,N≤m→vo.run (Cm m) d S=some S':=by
 cases vo with
 |call alone f args reg =>
  cases alone with
  |false =>
   simp only[VO.run]at h ⊢;cases hf:S.ev f with
   |none=>simp[hf]at h
   |some fv =>
    cases ha:nh S args with
    |none=>cases fv<;>simp[hf,ha]at h
    |some vs =>
     cases fv with
     |fn g cap =>
      simp only[hf,ha]at h ⊢;cases hc:L g (vs++cap) S.aA with
      |none=>simp[hc]at h
      |some r =>
       obtain⟨N,hN⟩:=hL _ _ _ _ hc;refine⟨N,fun m hm=>?_⟩;rw[hN m hm];rw[hc]at h;exact h
     |_=>simp[hf,ha]at h
  |true =>
   simp only[VO.run]at h ⊢;cases hf:S.ev f with
   |none=>simp[hf]at h
   |some fv =>
    cases ha:ni S args with
    |none=>cases fv with
     |fn g cap=>cases cap<;>simp[hf,ha]at h
     |_=>simp[hf,ha]at h
    |some vs =>
     cases fv with
     |fn g cap =>
      cases cap with
      |nil =>
       simp only[hf,ha]at h ⊢;cases hc:L g vs [] with
       |none=>simp[hc]at h
       |some r =>
        obtain⟨N,hN⟩:=hL _ _ _ _ hc;refine⟨N,fun m hm=>?_⟩;rw[hN m hm];rw[hc]at h;exact h
      |cons a b=>simp[hf,ha]at h
     |_=>simp[hf,ha]at h
 |sd f args =>
  simp only[VO.run]at h ⊢;cases hf:S.ev f with
  |none=>simp[hf]at h
  |some fv =>
   cases ha:nh S args with
   |none=>cases fv<;>simp[hf,ha]at h
   |some vs =>
    cases fv with
    |fn g cap =>
     simp only[hf,ha]at h ⊢;cases hc:L g (vs++cap) S.aA with
     |none=>simp[hc]at h
     |some r =>
      obtain⟨N,hN⟩:=hL _ _ _ _ hc;refine⟨N,fun m hm=>?_⟩;rw[hN m hm];rw[hc]at h;exact h
    |_=>simp[hf,ha]at h
 |own f args ids id pos =>
  simp only[VO.run]at h ⊢;cases hf:S.ev f with
  |none=>simp[hf]at h
  |some fv =>
   cases ha:lK S ids args with
   |none=>cases fv with
    |fn g cap=>cases cap<;>simp[hf,ha]at h
    |_=>simp[hf,ha]at h
   |some vs =>
    cases fv with
    |fn g cap =>
     cases cap with
     |nil =>
      simp only[hf,ha]at h ⊢;cases hc:L g vs [] with
      |none=>simp[hc]at h
      |some r =>
       obtain⟨N,hN⟩:=hL _ _ _ _ hc;refine⟨N,fun m hm=>?_⟩;rw[hN m hm];rw[hc]at h;exact h
     |cons a b=>simp[hf,ha]at h
    |_=>simp[hf,ha]at h
 |sf f args id =>
  simp only[VO.run]at h ⊢;cases hf:S.ev f with
  |none=>simp[hf]at h
  |some fv =>
   cases ha:ni S args with
   |none=>cases fv with
    |fn g cap=>cases cap<;>simp[hf,ha]at h
    |_=>simp[hf,ha]at h
   |some vs =>
    cases fv with
    |fn g cap =>
     cases cap with
     |nil =>
      simp only[hf,ha]at h ⊢;cases hc:L g vs [] with
      |none=>simp[hc]at h
      |some r =>
       obtain⟨N,hN⟩:=hL _ _ _ _ hc;refine⟨N,fun m hm=>?_⟩;rw[hN m hm];rw[hc]at h;exact h
     |cons a b=>simp[hf,ha]at h
    |_=>simp[hf,ha]at h
 |se f args ids =>
  simp only[VO.run]at h ⊢;cases hf:S.ev f with
  |none=>simp[hf]at h
  |some fv =>
   cases ha:lK S ids args with
   |none=>cases fv with
    |fn g cap=>cases cap<;>simp[hf,ha]at h
    |_=>simp[hf,ha]at h
   |some vs =>
    cases fv with
    |fn g cap =>
     cases cap with
     |nil =>
      simp only[hf,ha]at h ⊢;cases hc:L g vs [] with
      |none=>simp[hc]at h
      |some r =>
       obtain⟨N,hN⟩:=hL _ _ _ _ hc;refine⟨N,fun m hm=>?_⟩;rw[hN m hm];rw[hc]at h;exact h
     |cons a b=>simp[hf,ha]at h
    |_=>simp[hf,ha]at h
 |ov arr _ _ _=>cases arr<;>exact⟨0,fun m _=>h⟩
 |_=>exact⟨0,fun m _=>h⟩
theorem ake{S S':St}{o:bH}(h:o.run L S=some S'):∃N,∀m,N≤m→o.run (Cm m) S=some S':=by
 unfold bH.run at h ⊢;cases hg:o.guard with
 |none=>rw[hg]at h;exact XX hL h
 |some q =>
  obtain⟨g,want⟩:=q;rw[hg]at h;simp only at h ⊢;cases hl:look g S.env with
  |none=>simp[hl]at h
  |some v =>
   rw[hl]at h;cases v with
   |bool b =>
    simp only at h ⊢;cases hb:b==want with
    |true=>rw[hb]at h;simp only[bG]at h ⊢;exact XX hL h
    |false=>rw[hb]at h;simp only[eD]at h ⊢;exact⟨0,fun _ _=>h⟩
   |_=>exact⟨0,fun _ _=>h⟩
theorem Qo:∀{os:List bH} {S S':St},gW L os S=some S'→∃N,∀m,N≤m→gW (Cm m) os S=some S'
 |[],_,_,h=>⟨0,fun _ _=>h⟩
 |o::os,S,S',h=>by
  simp only[gW]at h ⊢;cases ho:o.run L S with
  |none=>simp[ho]at h
  |some S1 =>
   rw[ho]at h;obtain⟨N,hN⟩:=ake hL ho;obtain⟨M,hM⟩:=Qo h;refine⟨N+M,fun m hm=>?_⟩;rw[hN m (by omega)]
   exact hM m (by omega)
end
theorem XY{Bm:Nat→Nat→St→Option (pN×St)}{B:St→Option (pN×St)}(hB:∀S x,B S=some x→∃N,∀m k,N≤m→N≤k→Bm m k S=some x) :
  ∀{n:Nat} {S:St} {x:pN×St},iter B n S=some x→∃N,∀m k j,N≤m→N≤k→N≤j→iter (Bm m k) j S=some x
 |0,_,_,h=>by simp[iter]at h
 |n+1,S,x,h=>by
  simp only[iter]at h;cases hb:B S with
  |none=>simp[hb]at h
  |some y =>
   obtain⟨N,hN⟩:=hB _ _ hb;rw[hb]at h;obtain⟨e,S1⟩:=y;cases e with
   |normal =>
    simp only at h;obtain⟨M,hM⟩:=XY hB h;refine⟨N+M+1,fun m k j hm hk hj=>?_⟩;obtain⟨i,rfl⟩:∃i,j=i+1:=⟨j-1,by omega⟩
    simp only[iter];rw[hN _ _ (by omega) (by omega)]
    exact hM m k i (by omega) (by omega) (by omega)
   |exit i =>
    refine⟨N+1,fun m k j hm hk hj=>?_⟩;obtain⟨i,rfl⟩:∃i,j=i+1:=⟨j-1,by omega⟩
    simp only[iter];rw[hN _ _ (by omega) (by omega)]
    exact h
   |ret =>
    refine⟨N+1,fun m k j hm hk hj=>?_⟩;obtain⟨i,rfl⟩:∃i,j=i+1:=⟨j-1,by omega⟩
    simp only[iter];rw[hN _ _ (by omega) (by omega)]
    exact h
theorem C2{Cm:Nat→bD}{L:bD}(hL:Ib Cm L){n:Nat}:∀{c:VC} {S:St} {x:pN×St},VC.run L n c S=some x→∃N,∀m k,N≤m→N≤k→VC.run (Cm m) k c S=some x
 |.skip,_,_,h=>⟨0,fun _ _ _ _=>h⟩
 |.exit _,_,_,h=>⟨0,fun _ _ _ _=>h⟩
 |.ret,_,_,h=>⟨0,fun _ _ _ _=>h⟩
 |.Cu _,_,_,h=>⟨0,fun _ _ _ _=>h⟩
 |.dead,_,_,h=>by simp[VC.run]at h
 |.region gh ids ops keep,S,x,h=>by
  simp only[VC.run]at h ⊢;cases h1:oz gh S with
  |none=>simp[h1]at h
  |some S1 =>
   simp only[h1]at h ⊢;cases h2:S1.clean ids with
   |none=>simp[h2]at h
   |some S2 =>
    simp only[h2]at h ⊢;cases h3:gW L ops S2 with
    |none=>simp[h3]at h
    |some S3 =>
     obtain⟨N,hN⟩:=Qo hL h3;refine⟨N,fun m k hm hk=>?_⟩;rw[hN m hm];rw[h3]at h;exact h
 |.seq a b,S,x,h=>by
  simp only[VC.run]at h ⊢;cases h1:VC.run L n a S with
  |none=>simp[h1]at h
  |some y =>
   obtain⟨N,hN⟩:=C2 hL h1;rw[h1]at h;obtain⟨e,S1⟩:=y;cases e with
   |normal =>
    obtain⟨M,hM⟩:=C2 hL (c:=b) h;refine⟨N+M,fun m k hm hk=>?_⟩;rw[hN m k (by omega) (by omega)]
    exact hM m k (by omega) (by omega)
   |exit i =>
    refine⟨N,fun m k hm hk=>?_⟩;rw[hN m k (by omega) (by omega)]
    exact h
   |ret =>
    refine⟨N,fun m k hm hk=>?_⟩;rw[hN m k (by omega) (by omega)]
    exact h
 |.cond c a b,S,x,h=>by
  simp only[VC.run]at h ⊢;cases hc:S.ev c with
  |none=>simp[hc]at h
  |some v =>
   rw[hc]at h;cases v with
   |bool t =>
    cases t with
    |true=>simp only[bG]at h ⊢;exact C2 hL h
    |false=>simp only[eD]at h ⊢;exact C2 hL h
   |_=>simp at h
 |.block id a,S,x,h=>by
  simp only[VC.run]at h ⊢;cases h1:VC.run L n a S with
  |none=>simp[h1]at h
  |some y =>
   obtain⟨N,hN⟩:=C2 hL h1;refine⟨N,fun m k hm hk=>?_⟩;rw[hN m k hm hk];rw[h1]at h;exact h
 |.loop gh keep a,S,x,h=>by
  simp only[VC.run]at h ⊢;cases h1:oz gh S with
  |none=>simp[h1]at h
  |some S1 =>
   simp only[h1]at h ⊢;obtain⟨N,hN⟩:=XY (Bm:=fun m k S=>VC.run (Cm m) k a (S.keep keep)) (fun S x hx=>C2 hL hx) h;exact⟨N,fun m k hm hk=>hN m k k hm hk hk⟩
theorem Ic{B B':St→Option (pN×St)}(hB:∀S x,B S=some x→B' S=some x):∀{n m:Nat},n≤m→∀{S:St} {x:pN×St},iter B n S=some x→iter B' m S=some x
 |0,_,_,_,_,h=>by simp[iter]at h
 |n+1,m,ly,S,x,h=>by
  obtain⟨k,rfl⟩:∃k,m=k+1:=⟨m-1,by omega⟩
  simp only[iter]at h ⊢;cases hb:B S with
  |none=>simp[hb]at h
  |some y =>
   rw[hB _ _ hb];rw[hb]at h;obtain⟨e,S1⟩:=y;cases e with
   |normal=>exact Ic hB (by omega) h
   |exit i=>exact h
   |ret=>exact h
theorem akf{C C':bD}(hC:∀f args G r,C f args G=some r→C' f args G=some r){os:List bH}{S S':St}(h:gW C os S=some S'):gW C' os S=some S':=by
 obtain⟨N,hN⟩:=Qo (Cm:=fun _=>C') (L:=C) (fun f args G r h=>⟨0,fun _ _=>hC f args G r h⟩) h;exact hN N (bV _)
theorem BC{C C':bD}(hC:∀f args G r,C f args G=some r→C' f args G=some r){n m:Nat}(ly:n≤m):∀{c:VC} {S:St} {x:pN×St},VC.run C n c S=some x→VC.run C' m c S=some x
 |.skip,_,_,h=>h
 |.exit _,_,_,h=>h
 |.ret,_,_,h=>h
 |.Cu _,_,_,h=>h
 |.dead,_,_,h=>by simp[VC.run]at h
 |.region gh ids ops keep,S,x,h=>by
  simp only[VC.run]at h ⊢;cases h1:oz gh S with
  |none=>simp[h1]at h
  |some S1 =>
   simp only[h1]at h ⊢;cases h2:S1.clean ids with
   |none=>simp[h2]at h
   |some S2 =>
    simp only[h2]at h ⊢;cases h3:gW C ops S2 with
    |none=>simp[h3]at h
    |some S3 =>
     rw[akf hC h3];rw[h3]at h;exact h
 |.seq a b,S,x,h=>by
  simp only[VC.run]at h ⊢;cases h1:VC.run C n a S with
  |none=>simp[h1]at h
  |some y =>
   rw[BC hC ly h1];rw[h1]at h;obtain⟨e,S1⟩:=y;cases e with
   |normal=>exact BC hC ly (c:=b) h
   |exit i=>exact h
   |ret=>exact h
 |.cond c a b,S,x,h=>by
  simp only[VC.run]at h ⊢;cases hc:S.ev c with
  |none=>simp[hc]at h
  |some v =>
   rw[hc]at h;cases v with
   |bool t =>
    cases t with
    |true=>simp only[bG]at h ⊢;exact BC hC ly h
    |false=>simp only[eD]at h ⊢;exact BC hC ly h
   |_=>simp at h
 |.block id a,S,x,h=>by
  simp only[VC.run]at h ⊢;cases h1:VC.run C n a S with
  |none=>simp[h1]at h
  |some y =>
   rw[BC hC ly h1];rw[h1]at h;exact h
 |.loop gh keep a,S,x,h=>by
  simp only[VC.run]at h ⊢;cases h1:oz gh S with
  |none=>simp[h1]at h
  |some S1 =>
   simp only[h1]at h ⊢;exact Ic (fun S x hx=>BC hC ly hx) ly h
theorem Ie{Cm:Nat→bD}{L:bD}(hL:Ib Cm L){n:Nat}{vf:ba}{args:List V}{G:List aS}{r:V×List aS}(h:vf.call L n args G=some r):∃N,∀m k,N≤m→N≤k→vf.call (Cm m) k args G=some r:=by
 unfold ba.call at h ⊢;cases ha:args.length==vf.nparams with
 |false=>simp[ha]at h
 |true =>
  simp only[ha,bG]at h ⊢;cases h1:VC.run L n vf.body { env:=ql 0 args,aW:=[],bj:=[],aA:=G } with
  |none=>simp[h1]at h
  |some y =>
   obtain⟨N,hN⟩:=C2 hL h1;refine⟨N,fun m k hm hk=>?_⟩;rw[hN m k hm hk];rw[h1]at h;exact h
theorem akg{C C':bD}(hC:∀f args G r,C f args G=some r→C' f args G=some r){n m:Nat}(ly:n≤m){vf:ba}{args:List V}{G:List aS}{r:V×List aS}(h:vf.call C n args G=some r):vf.call C' m args G=some r:=by
 unfold ba.call at h ⊢;cases ha:args.length==vf.nparams with
 |false=>simp[ha]at h
 |true =>
  simp only[ha,bG]at h ⊢;cases h1:VC.run C n vf.body { env:=ql 0 args,aW:=[],bj:=[],aA:=G } with
  |none=>simp[h1]at h
  |some y =>
   rw[BC hC ly h1];rw[h1]at h;exact h
theorem X0{C C':bD}(hC:∀f args G r,C f args G=some r→C' f args G=some r){args:List V}:∀{l:List FuncId} {G G':List aS},qm C args l G=some G'→qm C' args l G=some G'
 |[],G,G',h=>h
 |f::l,G,G',h=>by
  simp only[qm]at h ⊢;split at h
  ·rename_i r G1 hc
   rw[hC _ _ _ _ hc];exact X0 hC h
  ·cases h
theorem akh{C C':bD}(hC:∀f args G r,C f args G=some r→C' f args G=some r){vf:ba}{args:List V}{o o':Option (V×List aS)}(ho:∀r,o=some r→o'=some r){r:V×List aS}
  (h:wrap C vf args o=some r):wrap C' vf args o'=some r:=by
 unfold wrap at h ⊢;rcases o with _ | ⟨r1,G1⟩
 ·cases h
 ·rw[ho _ rfl]
  simp only at h ⊢;cases hd:vf.defs with
  |nil=>rw[hd]at h;exact h
  |cons f fs =>
   rw[hd]at h;simp only at h ⊢;split at h
   ·split at h
    ·rename_i G2 hp
     rw[X0 hC hp];exact h
    ·cases h
   ·cases h
theorem X1{Cm:Nat→bD}{L:bD}(hL:Ib Cm L){args:List V}:∀{l:List FuncId} {G G':List aS},qm L args l G=some G'→∃N,∀m,N≤m→qm (Cm m) args l G=some G'
 |[],G,G',h=>⟨0,fun _ _=>h⟩
 |f::l,G,G',h=>by
  simp only[qm]at h;split at h
  ·rename_i r G1 hc
   obtain⟨N1,h1⟩:=hL _ _ _ _ hc;obtain⟨N2,h2⟩:=X1 hL h;refine⟨max N1 N2,fun m hm=>?_⟩;simp only[qm];rw[h1 m (by omega)]
   exact h2 m (by omega)
  ·cases h
theorem LD{C C':bD}(hC:∀f args G r,C f args G=some r→C' f args G=some r){n m:Nat}(ly:n≤m){vf:ba}{args:List V}{G:List aS}{r:V×List aS}(h:vf.one C n args G=some r):vf.one C' m args G=some r :=
 akh hC (fun _ h=>akg hC ly h) h
theorem LF{C:bD}{n:Nat}{vf:ba}{args:List V}{G:List aS}{r:V×List aS}(hs:vf.split=none):vf.A7 C n args G=some r↔vf.one C n args G=some r:=by
 unfold ba.A7;rw[hs]
theorem Ig{C:bD}{n:Nat}{vf:ba}{args:List V}{G:List aS}{r:V×List aS}{p:Nat}(hs:vf.split=some p) :
  vf.A7 C n args G=some r↔(∃m,args[p]?=some (.slice none m [])∧vf.one C n (args.set p .cb) G=some r∧vf.one C n (args.set p (.fG m)) G=some r) ∨
   ((∀m,args[p]?≠some (.slice none m []))∧vf.one C n args G=some r):=by
 unfold ba.A7;rw[hs];simp only;split
 ·rename_i m hp
  constructor
  ·intro h;exact .inl ⟨m,hp,XW h⟩
  ·rintro (⟨m',h0,h1,h2⟩ | ⟨h0,_⟩)
   ·rw[hp]at h0
    cases h0;unfold ba.both;rw[aM (h1.trans h2.symm)];exact h1
   ·exact absurd hp (h0 m)
 ·rename_i jh
  constructor
  ·intro h;exact .inr ⟨fun m e=>jh m e,h⟩
  ·rintro (⟨m',h0,_⟩ | ⟨_,h⟩)
   ·exact absurd h0 (jh m')
   ·exact h
theorem akk{C C':bD}(hC:∀f args G r,C f args G=some r→C' f args G=some r){n m:Nat}(ly:n≤m){vf:ba}{args:List V}{G:List aS}{r:V×List aS}(h:vf.A7 C n args G=some r):vf.A7 C' m args G=some r:=by
 cases hs:vf.split with
 |none=>exact(LF hs).2 (LD hC ly ((LF hs).1 h))
 |some p =>
  rcases (Ig hs).1 h with⟨k,h0,h1,h2⟩ | ⟨h0,h1⟩
  ·exact(Ig hs).2 (.inl ⟨k,h0,LD hC ly h1,LD hC ly h2⟩)
  ·exact(Ig hs).2 (.inr ⟨h0,LD hC ly h1⟩)
theorem Qp(F:FuncId→Option ba):∀n f args G r,call F n f args G=some r→∀m,n≤m→call F m f args G=some r:=by
 intro n;induction n with
 |zero=>intro f args G r h;simp[call]at h
 |succ n ih =>
  intro f args G r h m hm;obtain⟨k,rfl⟩:∃k,m=k+1:=⟨m-1,by omega⟩
  simp only[call]at h ⊢;cases hf:F f with
  |none=>simp[hf]at h
  |some vf =>
   rw[hf]at h;simp only at h ⊢;exact akk (fun f args G r h=>ih f args G r h k (by omega)) (by omega) h
noncomputable def aZ(F:FuncId→Option ba):bD:=fun f args G=>by
 classical
 exact if h:∃r,∃n,call F n f args G=some r then some h.choose else none
theorem E9{F:FuncId→Option ba}{f:FuncId}{args:List V}{G:List aS}{r:V×List aS}:aZ F f args G=some r↔∃n,call F n f args G=some r:=by
 unfold aZ;constructor
 ·intro h
  split at h
  ·rename_i hx
   obtain⟨n,hn⟩:=hx.choose_spec;cases h;exact⟨n,hn⟩
  ·cases h
 ·rintro⟨n,hn⟩
  have hx:∃r,∃n,call F n f args G=some r:=⟨r,n,hn⟩;rw[dif_pos hx];obtain⟨k,hk⟩:=hx.choose_spec;have h1:=Qp F n _ _ _ _ hn (n+k) (by omega)
  have h2:=Qp F k _ _ _ _ hk (n+k) (by omega)
  rw[h1]at h2;exact h2.symm
theorem Fa(F:FuncId→Option ba):Ib (call F) (aZ F):=fun f args G r h=>by
 obtain⟨n,hn⟩:=E9.1 h;exact⟨n,fun m hm=>Qp F n _ _ _ _ hn m hm⟩
theorem X2{F:FuncId→Option ba}{f:FuncId}{vf:ba}(hf:F f=some vf){n:Nat}{args:List V}{G:List aS}{r:V×List aS}(hd:vf.defs=[])(hs:vf.split=none)(h:vf.call (aZ F) n args G=some r):aZ F f args G=some r:=by
 obtain⟨N,hN⟩:=Ie (Fa F) h;refine E9.2 ⟨N+1,?_⟩;simp only[call,hf];refine(LF hs).2 ?_;unfold ba.one;rw[H6 hd];exact hN N N (bV _) (bV _)
theorem akl{F:FuncId→Option ba}{f:FuncId}{vf:ba}(hf:F f=some vf){n k p m:Nat}{args:List V}{G:List aS}{r:V×List aS}(hd:vf.defs=[])(hs:vf.split=some p)(hp:args[p]?=some (.slice none m []))
  (h:vf.call (aZ F) n (args.set p .cb) G=some r) (h':vf.call (aZ F) k (args.set p (.fG m)) G=some r):aZ F f args G=some r:=by
 obtain⟨N,hN⟩:=Ie (Fa F) h;obtain⟨M,hM⟩:=Ie (Fa F) h';refine E9.2 ⟨max N M+1,?_⟩;simp only[call,hf];refine(Ig hs).2 (.inl ⟨m,hp,?_,?_⟩)
 ·unfold ba.one
  rw[H6 hd];exact hN _ _ (by omega) (by omega)
 ·unfold ba.one
  rw[H6 hd];exact hM _ _ (by omega) (by omega)
theorem X3{F:FuncId→Option ba}{f:FuncId}{vf:ba}(hf:F f=some vf){n p:Nat}{args:List V}{G:List aS}{r:V×List aS}(hd:vf.defs=[])(hs:vf.split=some p)(hp:∀m,args[p]?≠some (.slice none m []))
  (h:vf.call (aZ F) n args G=some r):aZ F f args G=some r:=by
 obtain⟨N,hN⟩:=Ie (Fa F) h;refine E9.2 ⟨N+1,?_⟩;simp only[call,hf];refine(Ig hs).2 (.inr ⟨hp,?_⟩);unfold ba.one;rw[H6 hd];exact hN N N (bV _) (bV _)
theorem X4{F:FuncId→Option ba}{f:FuncId}{vf:ba}(hf:F f=some vf){n i off:Nat}{G G1 G2:List aS}{r:V}(hd:vf.defs≠[])(hs:vf.split=none)(h:vf.call (aZ F) n [.bm i off] G=some (r,G1))(hp:qm (aZ F) [.bm i off] vf.defs.reverse G1=some G2) :
  aZ F f [.bm i off] G=some (.tuple [],G2):=by
 obtain⟨N,hN⟩:=Ie (Fa F) h;obtain⟨M,hM⟩:=X1 (Fa F) hp;refine E9.2 ⟨max N M+1,?_⟩;simp only[call,hf];refine(LF hs).2 ?_;unfold ba.one;rw[hN (max N M) (max N M) (by omega) (by omega)]
 unfold wrap;have hM:=hM (max N M) (by omega)
 cases E8:vf.defs with
 |nil=>exact absurd E8 hd
 |cons f fs =>
  rw[E8]at hM;simp only[hM]
theorem akm{P:Program}{T:Pk}{F:FuncId→Option ba}(h:∀n,qA P T (call F n)):qA P T (aZ F):=fun f args G r G' hr=>by
 obtain⟨n,hn⟩:=E9.1 hr;exact h n f args G r G' hn
end Go.Vm

/- The value machine, 18: the evaluator without fuel. -/
import Derived.Test.YtocclbnghhaejaaGreatVmH
namespace Go.Vm
set_option linter.all false
def E6(Cm:Nat→bw)(L:bw):Prop:=∀f args G r,L f args G=some r→∃N,∀m,N≤m→Cm m f args G=some r
section
variable {Cm:Nat→bw} {L:bw} (hL:E6 Cm L)
include hL
theorem S5{d:Option Nat}{S S':St}{vo:VO}(h:vo.run L d S=some S'):∃N,∀m,N≤m→vo.run (Cm m) d S=some S':=by
 cases vo with
 |call alone f args reg =>
  cases alone with
  |false =>
   simp only[VO.run]at h ⊢;cases hf:S.ev f with
   |none=>simp[hf]at h
   |some fv =>
    cases ha:mr S args with
    |none=>cases fv<;>simp[hf,ha]at h
    |some vs =>
     cases fv with
     |fn g cap =>
      simp only[hf,ha]at h ⊢;cases hc:L g (vs++cap) S.aF with
      |none=>simp[hc]at h
      |some r =>
       obtain⟨N,hN⟩:=hL _ _ _ _ hc;refine⟨N,fun m hm=>?_⟩;rw[hN m hm];rw[hc]at h;exact h
     |_=>simp[hf,ha]at h
  |true =>
   simp only[VO.run]at h ⊢;cases hf:S.ev f with
   |none=>simp[hf]at h
   |some fv =>
    cases ha:mw S args with
    |none=>cases fv with
     |fn g cap=>cases cap<;>simp[hf,ha]at h
     |_=>simp[hf,ha]at h
    |some vs =>
     cases fv with
     |fn g cap =>
      cases cap with
      |nil =>
       simp only[hf,ha]at h ⊢;cases hc:L g vs [] with
       |none=>simp[hc]at h
       |some r =>
        obtain⟨N,hN⟩:=hL _ _ _ _ hc;refine⟨N,fun m hm=>?_⟩;rw[hN m hm];rw[hc]at h;exact h
      |cons a b=>simp[hf,ha]at h
     |_=>simp[hf,ha]at h
 |qk f args =>
  simp only[VO.run]at h ⊢;cases hf:S.ev f with
  |none=>simp[hf]at h
  |some fv =>
   cases ha:mr S args with
   |none=>cases fv<;>simp[hf,ha]at h
   |some vs =>
    cases fv with
    |fn g cap =>
     simp only[hf,ha]at h ⊢;cases hc:L g (vs++cap) S.aF with
     |none=>simp[hc]at h
     |some r =>
      obtain⟨N,hN⟩:=hL _ _ _ _ hc;refine⟨N,fun m hm=>?_⟩;rw[hN m hm];rw[hc]at h;exact h
    |_=>simp[hf,ha]at h
 |own f args ids id pos =>
  simp only[VO.run]at h ⊢;cases hf:S.ev f with
  |none=>simp[hf]at h
  |some fv =>
   cases ha:kY S ids args with
   |none=>cases fv with
    |fn g cap=>cases cap<;>simp[hf,ha]at h
    |_=>simp[hf,ha]at h
   |some vs =>
    cases fv with
    |fn g cap =>
     cases cap with
     |nil =>
      simp only[hf,ha]at h ⊢;cases hc:L g vs [] with
      |none=>simp[hc]at h
      |some r =>
       obtain⟨N,hN⟩:=hL _ _ _ _ hc;refine⟨N,fun m hm=>?_⟩;rw[hN m hm];rw[hc]at h;exact h
     |cons a b=>simp[hf,ha]at h
    |_=>simp[hf,ha]at h
 |qm f args id =>
  simp only[VO.run]at h ⊢;cases hf:S.ev f with
  |none=>simp[hf]at h
  |some fv =>
   cases ha:mw S args with
   |none=>cases fv with
    |fn g cap=>cases cap<;>simp[hf,ha]at h
    |_=>simp[hf,ha]at h
   |some vs =>
    cases fv with
    |fn g cap =>
     cases cap with
     |nil =>
      simp only[hf,ha]at h ⊢;cases hc:L g vs [] with
      |none=>simp[hc]at h
      |some r =>
       obtain⟨N,hN⟩:=hL _ _ _ _ hc;refine⟨N,fun m hm=>?_⟩;rw[hN m hm];rw[hc]at h;exact h
     |cons a b=>simp[hf,ha]at h
    |_=>simp[hf,ha]at h
 |ql f args ids =>
  simp only[VO.run]at h ⊢;cases hf:S.ev f with
  |none=>simp[hf]at h
  |some fv =>
   cases ha:kY S ids args with
   |none=>cases fv with
    |fn g cap=>cases cap<;>simp[hf,ha]at h
    |_=>simp[hf,ha]at h
   |some vs =>
    cases fv with
    |fn g cap =>
     cases cap with
     |nil =>
      simp only[hf,ha]at h ⊢;cases hc:L g vs [] with
      |none=>simp[hc]at h
      |some r =>
       obtain⟨N,hN⟩:=hL _ _ _ _ hc;refine⟨N,fun m hm=>?_⟩;rw[hN m hm];rw[hc]at h;exact h
     |cons a b=>simp[hf,ha]at h
    |_=>simp[hf,ha]at h
 |na arr _ _ _=>cases arr<;>exact⟨0,fun m _=>h⟩
 |_=>exact⟨0,fun m _=>h⟩
theorem aeJ{S S':St}{o:bH}(h:o.run L S=some S'):∃N,∀m,N≤m→o.run (Cm m) S=some S':=by
 unfold bH.run at h ⊢;cases hg:o.guard with
 |none=>rw[hg]at h;exact S5 hL h
 |some q =>
  obtain⟨g,want⟩:=q;rw[hg]at h;simp only at h ⊢;cases hl:look g S.env with
  |none=>simp[hl]at h
  |some v =>
   rw[hl]at h;cases v with
   |bool b =>
    simp only at h ⊢;cases hb:b==want with
    |true=>rw[hb]at h;simp only[cond_true]at h ⊢;exact S5 hL h
    |false=>rw[hb]at h;simp only[cond_false]at h ⊢;exact⟨0,fun _ _=>h⟩
   |_=>exact⟨0,fun _ _=>h⟩
theorem Mm:∀{os:List bH} {S S':St},gL L os S=some S'→∃N,∀m,N≤m→gL (Cm m) os S=some S'
 |[],_,_,h=>⟨0,fun _ _=>h⟩
 |o::os,S,S',h=>by
  simp only[gL]at h ⊢;cases ho:o.run L S with
  |none=>simp[ho]at h
  |some S1 =>
   rw[ho]at h;obtain⟨N,hN⟩:=aeJ hL ho;obtain⟨M,hM⟩:=Mm h;refine⟨N+M,fun m hm=>?_⟩;rw[hN m (by omega)]
   exact hM m (by omega)
end
theorem S6{Bm:Nat→Nat→St→Option (oz×St)}{B:St→Option (oz×St)}(hB:∀S x,B S=some x→∃N,∀m k,N≤m→N≤k→Bm m k S=some x) :
  ∀{n:Nat} {S:St} {x:oz×St},iter B n S=some x→∃N,∀m k j,N≤m→N≤k→N≤j→iter (Bm m k) j S=some x
 |0,_,_,h=>by simp[iter]at h
 |n+1,S,x,h=>by
  simp only[iter]at h;cases hb:B S with
  |none=>simp[hb]at h
  |some y =>
   obtain⟨N,hN⟩:=hB _ _ hb;rw[hb]at h;obtain⟨e,S1⟩:=y;cases e with
   |normal =>
    simp only at h;obtain⟨M,hM⟩:=S6 hB h;refine⟨N+M+1,fun m k j hm hk hj=>?_⟩;obtain⟨i,rfl⟩:∃i,j=i+1:=⟨j-1,by omega⟩
    simp only[iter];rw[hN _ _ (by omega) (by omega)]
    exact hM m k i (by omega) (by omega) (by omega)
   |exit i =>
    refine⟨N+1,fun m k j hm hk hj=>?_⟩;obtain⟨i,rfl⟩:∃i,j=i+1:=⟨j-1,by omega⟩
    simp only[iter];rw[hN _ _ (by omega) (by omega)]
    exact h
   |ret =>
    refine⟨N+1,fun m k j hm hk hj=>?_⟩;obtain⟨i,rfl⟩:∃i,j=i+1:=⟨j-1,by omega⟩
    simp only[iter];rw[hN _ _ (by omega) (by omega)]
    exact h
theorem A2{Cm:Nat→bw}{L:bw}(hL:E6 Cm L){n:Nat}:∀{c:VC} {S:St} {x:oz×St},VC.run L n c S=some x→∃N,∀m k,N≤m→N≤k→VC.run (Cm m) k c S=some x
 |.skip,_,_,h=>⟨0,fun _ _ _ _=>h⟩
 |.exit _,_,_,h=>⟨0,fun _ _ _ _=>h⟩
 |.ret,_,_,h=>⟨0,fun _ _ _ _=>h⟩
 |.As _,_,_,h=>⟨0,fun _ _ _ _=>h⟩
 |.dead,_,_,h=>by simp[VC.run]at h
 |.region gh ids ops keep,S,x,h=>by
  simp only[VC.run]at h ⊢;cases h1:nc gh S with
  |none=>simp[h1]at h
  |some S1 =>
   simp only[h1]at h ⊢;cases h2:S1.clean ids with
   |none=>simp[h2]at h
   |some S2 =>
    simp only[h2]at h ⊢;cases h3:gL L ops S2 with
    |none=>simp[h3]at h
    |some S3 =>
     obtain⟨N,hN⟩:=Mm hL h3;refine⟨N,fun m k hm hk=>?_⟩;rw[hN m hm];rw[h3]at h;exact h
 |.seq a b,S,x,h=>by
  simp only[VC.run]at h ⊢;cases h1:VC.run L n a S with
  |none=>simp[h1]at h
  |some y =>
   obtain⟨N,hN⟩:=A2 hL h1;rw[h1]at h;obtain⟨e,S1⟩:=y;cases e with
   |normal =>
    obtain⟨M,hM⟩:=A2 hL (c:=b) h;refine⟨N+M,fun m k hm hk=>?_⟩;rw[hN m k (by omega) (by omega)]
    exact hM m k (by omega) (by omega)
   |exit i =>
    refine⟨N,fun m k hm hk=>?_⟩;rw[hN m k (by omega) (by omega)]
    exact h
   |ret =>
    refine⟨N,fun m k hm hk=>?_⟩;rw[hN m k (by omega) (by omega)]
    exact h
 |.cond c a b,S,x,h=>by
  simp only[VC.run]at h ⊢;cases hc:S.ev c with
  |none=>simp[hc]at h
  |some v =>
   rw[hc]at h;cases v with
   |bool t =>
    cases t with
    |true=>simp only[cond_true]at h ⊢;exact A2 hL h
    |false=>simp only[cond_false]at h ⊢;exact A2 hL h
   |_=>simp at h
 |.block id a,S,x,h=>by
  simp only[VC.run]at h ⊢;cases h1:VC.run L n a S with
  |none=>simp[h1]at h
  |some y =>
   obtain⟨N,hN⟩:=A2 hL h1;refine⟨N,fun m k hm hk=>?_⟩;rw[hN m k hm hk];rw[h1]at h;exact h
 |.loop gh keep a,S,x,h=>by
  simp only[VC.run]at h ⊢;cases h1:nc gh S with
  |none=>simp[h1]at h
  |some S1 =>
   simp only[h1]at h ⊢;obtain⟨N,hN⟩:=S6 (Bm:=fun m k S=>VC.run (Cm m) k a (S.keep keep)) (fun S x hx=>A2 hL hx) h;exact⟨N,fun m k hm hk=>hN m k k hm hk hk⟩
theorem E7{B B':St→Option (oz×St)}(hB:∀S x,B S=some x→B' S=some x):∀{n m:Nat},n≤m→∀{S:St} {x:oz×St},iter B n S=some x→iter B' m S=some x
 |0,_,_,_,_,h=>by simp[iter]at h
 |n+1,m,kN,S,x,h=>by
  obtain⟨k,rfl⟩:∃k,m=k+1:=⟨m-1,by omega⟩
  simp only[iter]at h ⊢;cases hb:B S with
  |none=>simp[hb]at h
  |some y =>
   rw[hB _ _ hb];rw[hb]at h;obtain⟨e,S1⟩:=y;cases e with
   |normal=>exact E7 hB (by omega) h
   |exit i=>exact h
   |ret=>exact h
theorem aeK{C C':bw}(hC:∀f args G r,C f args G=some r→C' f args G=some r){os:List bH}{S S':St}(h:gL C os S=some S'):gL C' os S=some S':=by
 obtain⟨N,hN⟩:=Mm (Cm:=fun _=>C') (L:=C) (fun f args G r h=>⟨0,fun _ _=>hC f args G r h⟩) h;exact hN N (Nat.le_refl _)
theorem zG{C C':bw}(hC:∀f args G r,C f args G=some r→C' f args G=some r){n m:Nat}(kN:n≤m):∀{c:VC} {S:St} {x:oz×St},VC.run C n c S=some x→VC.run C' m c S=some x
 |.skip,_,_,h=>h
 |.exit _,_,_,h=>h
 |.ret,_,_,h=>h
 |.As _,_,_,h=>h
 |.dead,_,_,h=>by simp[VC.run]at h
 |.region gh ids ops keep,S,x,h=>by
  simp only[VC.run]at h ⊢;cases h1:nc gh S with
  |none=>simp[h1]at h
  |some S1 =>
   simp only[h1]at h ⊢;cases h2:S1.clean ids with
   |none=>simp[h2]at h
   |some S2 =>
    simp only[h2]at h ⊢;cases h3:gL C ops S2 with
    |none=>simp[h3]at h
    |some S3 =>
     rw[aeK hC h3];rw[h3]at h;exact h
 |.seq a b,S,x,h=>by
  simp only[VC.run]at h ⊢;cases h1:VC.run C n a S with
  |none=>simp[h1]at h
  |some y =>
   rw[zG hC kN h1];rw[h1]at h;obtain⟨e,S1⟩:=y;cases e with
   |normal=>exact zG hC kN (c:=b) h
   |exit i=>exact h
   |ret=>exact h
 |.cond c a b,S,x,h=>by
  simp only[VC.run]at h ⊢;cases hc:S.ev c with
  |none=>simp[hc]at h
  |some v =>
   rw[hc]at h;cases v with
   |bool t =>
    cases t with
    |true=>simp only[cond_true]at h ⊢;exact zG hC kN h
    |false=>simp only[cond_false]at h ⊢;exact zG hC kN h
   |_=>simp at h
 |.block id a,S,x,h=>by
  simp only[VC.run]at h ⊢;cases h1:VC.run C n a S with
  |none=>simp[h1]at h
  |some y =>
   rw[zG hC kN h1];rw[h1]at h;exact h
 |.loop gh keep a,S,x,h=>by
  simp only[VC.run]at h ⊢;cases h1:nc gh S with
  |none=>simp[h1]at h
  |some S1 =>
   simp only[h1]at h ⊢;exact E7 (fun S x hx=>zG hC kN hx) kN h
theorem E8{Cm:Nat→bw}{L:bw}(hL:E6 Cm L){n:Nat}{vf:bb}{args:List V}{G:List aP}{r:V×List aP}(h:vf.call L n args G=some r):∃N,∀m k,N≤m→N≤k→vf.call (Cm m) k args G=some r:=by
 unfold bb.call at h ⊢;cases ha:args.length==vf.nparams with
 |false=>simp[ha]at h
 |true =>
  simp only[ha,cond_true]at h ⊢;cases h1:VC.run L n vf.body { env:=oT 0 args,aU:=[],bg:=[],aF:=G } with
  |none=>simp[h1]at h
  |some y =>
   obtain⟨N,hN⟩:=A2 hL h1;refine⟨N,fun m k hm hk=>?_⟩;rw[hN m k hm hk];rw[h1]at h;exact h
theorem aeL{C C':bw}(hC:∀f args G r,C f args G=some r→C' f args G=some r){n m:Nat}(kN:n≤m){vf:bb}{args:List V}{G:List aP}{r:V×List aP}(h:vf.call C n args G=some r):vf.call C' m args G=some r:=by
 unfold bb.call at h ⊢;cases ha:args.length==vf.nparams with
 |false=>simp[ha]at h
 |true =>
  simp only[ha,cond_true]at h ⊢;cases h1:VC.run C n vf.body { env:=oT 0 args,aU:=[],bg:=[],aF:=G } with
  |none=>simp[h1]at h
  |some y =>
   rw[zG hC kN h1];rw[h1]at h;exact h
theorem S8{C C':bw}(hC:∀f args G r,C f args G=some r→C' f args G=some r){args:List V}:∀{l:List FuncId} {G G':List aP},oU C args l G=some G'→oU C' args l G=some G'
 |[],G,G',h=>h
 |f::l,G,G',h=>by
  simp only[oU]at h ⊢;split at h
  ·rename_i r G1 hc
   rw[hC _ _ _ _ hc];exact S8 hC h
  ·cases h
theorem aeM{C C':bw}(hC:∀f args G r,C f args G=some r→C' f args G=some r){vf:bb}{args:List V}{o o':Option (V×List aP)}(ho:∀r,o=some r→o'=some r){r:V×List aP}
  (h:wrap C vf args o=some r):wrap C' vf args o'=some r:=by
 unfold wrap at h ⊢;rcases o with _ | ⟨r1,G1⟩
 ·cases h
 ·rw[ho _ rfl]
  simp only at h ⊢;cases hd:vf.defs with
  |nil=>rw[hd]at h;exact h
  |cons f fs =>
   rw[hd]at h;simp only at h ⊢;split at h
   ·split at h
    ·rename_i G2 hp
     rw[S8 hC hp];exact h
    ·cases h
   ·cases h
theorem S9{Cm:Nat→bw}{L:bw}(hL:E6 Cm L){args:List V}:∀{l:List FuncId} {G G':List aP},oU L args l G=some G'→∃N,∀m,N≤m→oU (Cm m) args l G=some G'
 |[],G,G',h=>⟨0,fun _ _=>h⟩
 |f::l,G,G',h=>by
  simp only[oU]at h;split at h
  ·rename_i r G1 hc
   obtain⟨N1,h1⟩:=hL _ _ _ _ hc;obtain⟨N2,h2⟩:=S9 hL h;refine⟨max N1 N2,fun m hm=>?_⟩;simp only[oU];rw[h1 m (by omega)]
   exact h2 m (by omega)
  ·cases h
theorem Il{C C':bw}(hC:∀f args G r,C f args G=some r→C' f args G=some r){n m:Nat}(kN:n≤m){vf:bb}{args:List V}{G:List aP}{r:V×List aP}(h:vf.one C n args G=some r):vf.one C' m args G=some r :=
 aeM hC (fun _ h=>aeL hC kN h) h
theorem Im{C:bw}{n:Nat}{vf:bb}{args:List V}{G:List aP}{r:V×List aP}(hs:vf.split=none):vf.yR C n args G=some r↔vf.one C n args G=some r:=by
 unfold bb.yR;rw[hs]
theorem E9{C:bw}{n:Nat}{vf:bb}{args:List V}{G:List aP}{r:V×List aP}{p:Nat}(hs:vf.split=some p) :
  vf.yR C n args G=some r↔(∃m,args[p]?=some (.slice none m [])∧vf.one C n (args.set p .bV) G=some r∧vf.one C n (args.set p (.fu m)) G=some r) ∨
   ((∀m,args[p]?≠some (.slice none m []))∧vf.one C n args G=some r):=by
 unfold bb.yR;rw[hs];simp only;split
 ·rename_i m hp
  constructor
  ·intro h;exact .inl ⟨m,hp,S4 h⟩
  ·rintro (⟨m',h0,h1,h2⟩ | ⟨h0,_⟩)
   ·rw[hp]at h0
    cases h0;unfold bb.both;rw[if_pos (h1.trans h2.symm)];exact h1
   ·exact absurd hp (h0 m)
 ·rename_i ji
  constructor
  ·intro h;exact .inr ⟨fun m e=>ji m e,h⟩
  ·rintro (⟨m',h0,_⟩ | ⟨_,h⟩)
   ·exact absurd h0 (ji m')
   ·exact h
theorem aeP{C C':bw}(hC:∀f args G r,C f args G=some r→C' f args G=some r){n m:Nat}(kN:n≤m){vf:bb}{args:List V}{G:List aP}{r:V×List aP}(h:vf.yR C n args G=some r):vf.yR C' m args G=some r:=by
 cases hs:vf.split with
 |none=>exact(Im hs).2 (Il hC kN ((Im hs).1 h))
 |some p =>
  rcases (E9 hs).1 h with⟨k,h0,h1,h2⟩ | ⟨h0,h1⟩
  ·exact(E9 hs).2 (.inl ⟨k,h0,Il hC kN h1,Il hC kN h2⟩)
  ·exact(E9 hs).2 (.inr ⟨h0,Il hC kN h1⟩)
theorem Mn(F:FuncId→Option bb):∀n f args G r,call F n f args G=some r→∀m,n≤m→call F m f args G=some r:=by
 intro n;induction n with
 |zero=>intro f args G r h;simp[call]at h
 |succ n ih =>
  intro f args G r h m hm;obtain⟨k,rfl⟩:∃k,m=k+1:=⟨m-1,by omega⟩
  simp only[call]at h ⊢;cases hf:F f with
  |none=>simp[hf]at h
  |some vf =>
   rw[hf]at h;simp only at h ⊢;exact aeP (fun f args G r h=>ih f args G r h k (by omega)) (by omega) h
noncomputable def aX(F:FuncId→Option bb):bw:=fun f args G=>by
 classical
 exact if h:∃r,∃n,call F n f args G=some r then some h.choose else none
theorem zH{F:FuncId→Option bb}{f:FuncId}{args:List V}{G:List aP}{r:V×List aP}:aX F f args G=some r↔∃n,call F n f args G=some r:=by
 unfold aX;constructor
 ·intro h
  split at h
  ·rename_i hx
   obtain⟨n,hn⟩:=hx.choose_spec;cases h;exact⟨n,hn⟩
  ·cases h
 ·rintro⟨n,hn⟩
  have hx:∃r,∃n,call F n f args G=some r:=⟨r,n,hn⟩;rw[dif_pos hx];obtain⟨k,hk⟩:=hx.choose_spec;have h1:=Mn F n _ _ _ _ hn (n+k) (by omega)
  have h2:=Mn F k _ _ _ _ hk (n+k) (by omega)
  rw[h1]at h2;exact h2.symm
theorem CZ(F:FuncId→Option bb):E6 (call F) (aX F):=fun f args G r h=>by
 obtain⟨n,hn⟩:=zH.1 h;exact⟨n,fun m hm=>Mn F n _ _ _ _ hn m hm⟩
theorem Ta{F:FuncId→Option bb}{f:FuncId}{vf:bb}(hf:F f=some vf){n:Nat}{args:List V}{G:List aP}{r:V×List aP}(hd:vf.defs=[])(hs:vf.split=none)(h:vf.call (aX F) n args G=some r):aX F f args G=some r:=by
 obtain⟨N,hN⟩:=E8 (CZ F) h;refine zH.2 ⟨N+1,?_⟩;simp only[call,hf];refine(Im hs).2 ?_;unfold bb.one;rw[E3 hd];exact hN N N (Nat.le_refl _) (Nat.le_refl _)
theorem aeQ{F:FuncId→Option bb}{f:FuncId}{vf:bb}(hf:F f=some vf){n k p m:Nat}{args:List V}{G:List aP}{r:V×List aP}(hd:vf.defs=[])(hs:vf.split=some p)(hp:args[p]?=some (.slice none m []))
  (h:vf.call (aX F) n (args.set p .bV) G=some r) (h':vf.call (aX F) k (args.set p (.fu m)) G=some r):aX F f args G=some r:=by
 obtain⟨N,hN⟩:=E8 (CZ F) h;obtain⟨M,hM⟩:=E8 (CZ F) h';refine zH.2 ⟨max N M+1,?_⟩;simp only[call,hf];refine(E9 hs).2 (.inl ⟨m,hp,?_,?_⟩)
 ·unfold bb.one
  rw[E3 hd];exact hN _ _ (by omega) (by omega)
 ·unfold bb.one
  rw[E3 hd];exact hM _ _ (by omega) (by omega)
theorem Tb{F:FuncId→Option bb}{f:FuncId}{vf:bb}(hf:F f=some vf){n p:Nat}{args:List V}{G:List aP}{r:V×List aP}(hd:vf.defs=[])(hs:vf.split=some p)(hp:∀m,args[p]?≠some (.slice none m []))
  (h:vf.call (aX F) n args G=some r):aX F f args G=some r:=by
 obtain⟨N,hN⟩:=E8 (CZ F) h;refine zH.2 ⟨N+1,?_⟩;simp only[call,hf];refine(E9 hs).2 (.inr ⟨hp,?_⟩);unfold bb.one;rw[E3 hd];exact hN N N (Nat.le_refl _) (Nat.le_refl _)
theorem Tc{F:FuncId→Option bb}{f:FuncId}{vf:bb}(hf:F f=some vf){n i off:Nat}{G G1 G2:List aP}{r:V}(hd:vf.defs≠[])(hs:vf.split=none)(h:vf.call (aX F) n [.bG i off] G=some (r,G1))(hp:oU (aX F) [.bG i off] vf.defs.reverse G1=some G2) :
  aX F f [.bG i off] G=some (.tuple [],G2):=by
 obtain⟨N,hN⟩:=E8 (CZ F) h;obtain⟨M,hM⟩:=S9 (CZ F) hp;refine zH.2 ⟨max N M+1,?_⟩;simp only[call,hf];refine(Im hs).2 ?_;unfold bb.one;rw[hN (max N M) (max N M) (by omega) (by omega)]
 unfold wrap;have hM:=hM (max N M) (by omega)
 cases CY:vf.defs with
 |nil=>exact absurd CY hd
 |cons f fs =>
  rw[CY]at hM;simp only[hM]
theorem aeR{P:Program}{F:FuncId→Option bb}(h:∀n,oD P (call F n)):oD P (aX F):=fun f args G r G' hr=>by
 obtain⟨n,hn⟩:=zH.1 hr;exact h n f args G r G' hn
end Go.Vm

/- The value machine, 18: the evaluator without fuel. -/
import Derived.Test.YtfjdfnegookkcaaGreatVmH
namespace Go.Vm
set_option linter.all false
def Tends (Cm:Nat → CallF) (L:CallF):Prop:=∀ f args G r,L f args G = some r → ∃ N,∀ m,N ≤ m → Cm m f args G = some r
section
variable {Cm:Nat → CallF} {L:CallF} (hL:Tends Cm L)
include hL
theorem vo_tends {d:Option Nat} {S S':St} {vo:VO} (h:vo.run L d S = some S'):∃ N,∀ m,N ≤ m → vo.run (Cm m) d S = some S':=by
 cases vo with
 | call alone f args reg =>
   cases alone with
   | false =>
     simp only [VO.run] at h ⊢
     cases hf:S.ev f with
     | none => simp [hf] at h
     | some fv =>
       cases ha:gargs S args with
       | none => cases fv <;> simp [hf,ha] at h
       | some vs =>
         cases fv with
         | fn g cap =>
           simp only [hf,ha] at h ⊢
           cases hc:L g (vs ++ cap) S.glob with
           | none => simp [hc] at h
           | some r =>
             obtain ⟨N,hN⟩:=hL _ _ _ _ hc
             refine ⟨N,fun m hm => ?_⟩
             rw [hN m hm]
             rw [hc] at h
             exact h
         | _ => simp [hf,ha] at h
   | true =>
     simp only [VO.run] at h ⊢
     cases hf:S.ev f with
     | none => simp [hf] at h
     | some fv =>
       cases ha:pargs S args with
       | none => cases fv with
         | fn g cap => cases cap <;> simp [hf,ha] at h
         | _ => simp [hf,ha] at h
       | some vs =>
         cases fv with
         | fn g cap =>
           cases cap with
           | nil =>
             simp only [hf,ha] at h ⊢
             cases hc:L g vs [] with
             | none => simp [hc] at h
             | some r =>
               obtain ⟨N,hN⟩:=hL _ _ _ _ hc
               refine ⟨N,fun m hm => ?_⟩
               rw [hN m hm]
               rw [hc] at h
               exact h
           | cons a b => simp [hf,ha] at h
         | _ => simp [hf,ha] at h
 | rcall f args =>
   simp only [VO.run] at h ⊢
   cases hf:S.ev f with
   | none => simp [hf] at h
   | some fv =>
     cases ha:gargs S args with
     | none => cases fv <;> simp [hf,ha] at h
     | some vs =>
       cases fv with
       | fn g cap =>
         simp only [hf,ha] at h ⊢
         cases hc:L g (vs ++ cap) S.glob with
         | none => simp [hc] at h
         | some r =>
           obtain ⟨N,hN⟩:=hL _ _ _ _ hc
           refine ⟨N,fun m hm => ?_⟩
           rw [hN m hm]
           rw [hc] at h
           exact h
       | _ => simp [hf,ha] at h
 | own f args id pos =>
   simp only [VO.run] at h ⊢
   cases hf:S.ev f with
   | none => simp [hf] at h
   | some fv =>
     cases ha:pargs S args with
     | none => cases fv with
       | fn g cap => cases cap <;> simp [hf,ha] at h
       | _ => simp [hf,ha] at h
     | some vs =>
       cases fv with
       | fn g cap =>
         cases cap with
         | nil =>
           simp only [hf,ha] at h ⊢
           cases hc:L g vs [] with
           | none => simp [hc] at h
           | some r =>
             obtain ⟨N,hN⟩:=hL _ _ _ _ hc
             refine ⟨N,fun m hm => ?_⟩
             rw [hN m hm]
             rw [hc] at h
             exact h
         | cons a b => simp [hf,ha] at h
       | _ => simp [hf,ha] at h
 | lcall f args ids =>
   simp only [VO.run] at h ⊢
   cases hf:S.ev f with
   | none => simp [hf] at h
   | some fv =>
     cases ha:largs S ids args with
     | none => cases fv with
       | fn g cap => cases cap <;> simp [hf,ha] at h
       | _ => simp [hf,ha] at h
     | some vs =>
       cases fv with
       | fn g cap =>
         cases cap with
         | nil =>
           simp only [hf,ha] at h ⊢
           cases hc:L g vs [] with
           | none => simp [hc] at h
           | some r =>
             obtain ⟨N,hN⟩:=hL _ _ _ _ hc
             refine ⟨N,fun m hm => ?_⟩
             rw [hN m hm]
             rw [hc] at h
             exact h
         | cons a b => simp [hf,ha] at h
       | _ => simp [hf,ha] at h
 | iaddr arr _ _ _ => cases arr <;> exact ⟨0,fun m _ => h⟩
 | _ => exact ⟨0,fun m _ => h⟩
theorem vop_tends {S S':St} {o:VOp} (h:o.run L S = some S'):∃ N,∀ m,N ≤ m → o.run (Cm m) S = some S':=by
 unfold VOp.run at h ⊢
 cases hg:o.guard with
 | none => rw [hg] at h;exact vo_tends hL h
 | some q =>
   obtain ⟨g,want⟩:=q
   rw [hg] at h
   simp only at h ⊢
   cases hl:look g S.env with
   | none => simp [hl] at h
   | some v =>
     rw [hl] at h
     cases v with
     | bool b =>
       simp only at h ⊢
       cases hb:b == want with
       | true => rw [hb] at h;simp only [cond_true] at h ⊢;exact vo_tends hL h
       | false => rw [hb] at h;simp only [cond_false] at h ⊢;exact ⟨0,fun _ _ => h⟩
     | _ => exact ⟨0,fun _ _ => h⟩
theorem ops_tends:∀ {os:List VOp} {S S':St},runOps L os S = some S' → ∃ N,∀ m,N ≤ m → runOps (Cm m) os S = some S'
 | [],_,_,h => ⟨0,fun _ _ => h⟩
 | o :: os,S,S',h => by
   simp only [runOps] at h ⊢
   cases ho:o.run L S with
   | none => simp [ho] at h
   | some S1 =>
     rw [ho] at h
     obtain ⟨N,hN⟩:=vop_tends hL ho
     obtain ⟨M,hM⟩:=ops_tends h
     refine ⟨N + M,fun m hm => ?_⟩
     rw [hN m (by omega)]
     exact hM m (by omega)
end
theorem iter_tends {Bm:Nat → Nat → St → Option (VExit × St)} {B:St → Option (VExit × St)} (hB:∀ S x,B S = some x → ∃ N,∀ m k,N ≤ m → N ≤ k → Bm m k S = some x) :
  ∀ {n:Nat} {S:St} {x:VExit × St},iter B n S = some x → ∃ N,∀ m k j,N ≤ m → N ≤ k → N ≤ j → iter (Bm m k) j S = some x
 | 0,_,_,h => by simp [iter] at h
 | n + 1,S,x,h => by
   simp only [iter] at h
   cases hb:B S with
   | none => simp [hb] at h
   | some y =>
     obtain ⟨N,hN⟩:=hB _ _ hb
     rw [hb] at h
     obtain ⟨e,S1⟩:=y
     cases e with
     | normal =>
       simp only at h
       obtain ⟨M,hM⟩:=iter_tends hB h
       refine ⟨N + M + 1,fun m k j hm hk hj => ?_⟩
       obtain ⟨i,rfl⟩:∃ i,j = i + 1:=⟨j - 1,by omega⟩
       simp only [iter]
       rw [hN _ _ (by omega) (by omega)]
       exact hM m k i (by omega) (by omega) (by omega)
     | exit i =>
       refine ⟨N + 1,fun m k j hm hk hj => ?_⟩
       obtain ⟨i,rfl⟩:∃ i,j = i + 1:=⟨j - 1,by omega⟩
       simp only [iter]
       rw [hN _ _ (by omega) (by omega)]
       exact h
     | ret =>
       refine ⟨N + 1,fun m k j hm hk hj => ?_⟩
       obtain ⟨i,rfl⟩:∃ i,j = i + 1:=⟨j - 1,by omega⟩
       simp only [iter]
       rw [hN _ _ (by omega) (by omega)]
       exact h
theorem vc_tends {Cm:Nat → CallF} {L:CallF} (hL:Tends Cm L) {n:Nat}:∀ {c:VC} {S:St} {x:VExit × St},VC.run L n c S = some x → ∃ N,∀ m k,N ≤ m → N ≤ k → VC.run (Cm m) k c S = some x
 | .skip,_,_,h => ⟨0,fun _ _ _ _ => h⟩
 | .exit _,_,_,h => ⟨0,fun _ _ _ _ => h⟩
 | .ret,_,_,h => ⟨0,fun _ _ _ _ => h⟩
 | .region gh ids ops keep,S,x,h => by
   simp only [VC.run] at h ⊢
   cases h1:ghosts gh S with
   | none => simp [h1] at h
   | some S1 =>
     simp only [h1] at h ⊢
     cases h2:S1.clean ids with
     | none => simp [h2] at h
     | some S2 =>
       simp only [h2] at h ⊢
       cases h3:runOps L ops S2 with
       | none => simp [h3] at h
       | some S3 =>
         obtain ⟨N,hN⟩:=ops_tends hL h3
         refine ⟨N,fun m k hm hk => ?_⟩
         rw [hN m hm]
         rw [h3] at h
         exact h
 | .seq a b,S,x,h => by
   simp only [VC.run] at h ⊢
   cases h1:VC.run L n a S with
   | none => simp [h1] at h
   | some y =>
     obtain ⟨N,hN⟩:=vc_tends hL h1
     rw [h1] at h
     obtain ⟨e,S1⟩:=y
     cases e with
     | normal =>
       obtain ⟨M,hM⟩:=vc_tends hL (c:=b) h
       refine ⟨N + M,fun m k hm hk => ?_⟩
       rw [hN m k (by omega) (by omega)]
       exact hM m k (by omega) (by omega)
     | exit i =>
       refine ⟨N,fun m k hm hk => ?_⟩
       rw [hN m k (by omega) (by omega)]
       exact h
     | ret =>
       refine ⟨N,fun m k hm hk => ?_⟩
       rw [hN m k (by omega) (by omega)]
       exact h
 | .cond c a b,S,x,h => by
   simp only [VC.run] at h ⊢
   cases hc:S.ev c with
   | none => simp [hc] at h
   | some v =>
     rw [hc] at h
     cases v with
     | bool t =>
       cases t with
       | true => simp only [cond_true] at h ⊢;exact vc_tends hL h
       | false => simp only [cond_false] at h ⊢;exact vc_tends hL h
     | _ => simp at h
 | .block id a,S,x,h => by
   simp only [VC.run] at h ⊢
   cases h1:VC.run L n a S with
   | none => simp [h1] at h
   | some y =>
     obtain ⟨N,hN⟩:=vc_tends hL h1
     refine ⟨N,fun m k hm hk => ?_⟩
     rw [hN m k hm hk]
     rw [h1] at h
     exact h
 | .loop gh keep a,S,x,h => by
   simp only [VC.run] at h ⊢
   cases h1:ghosts gh S with
   | none => simp [h1] at h
   | some S1 =>
     simp only [h1] at h ⊢
     obtain ⟨N,hN⟩:=iter_tends (Bm:=fun m k S => VC.run (Cm m) k a (S.keep keep)) (fun S x hx => vc_tends hL hx) h
     exact ⟨N,fun m k hm hk => hN m k k hm hk hk⟩
theorem iter_up {B B':St → Option (VExit × St)} (hB:∀ S x,B S = some x → B' S = some x):∀ {n m:Nat},n ≤ m → ∀ {S:St} {x:VExit × St},iter B n S = some x → iter B' m S = some x
 | 0,_,_,_,_,h => by simp [iter] at h
 | n + 1,m,hnm,S,x,h => by
   obtain ⟨k,rfl⟩:∃ k,m = k + 1:=⟨m - 1,by omega⟩
   simp only [iter] at h ⊢
   cases hb:B S with
   | none => simp [hb] at h
   | some y =>
     rw [hB _ _ hb]
     rw [hb] at h
     obtain ⟨e,S1⟩:=y
     cases e with
     | normal => exact iter_up hB (by omega) h
     | exit i => exact h
     | ret => exact h
theorem ops_up {C C':CallF} (hC:∀ f args G r,C f args G = some r → C' f args G = some r) {os:List VOp} {S S':St} (h:runOps C os S = some S'):runOps C' os S = some S':=by
 obtain ⟨N,hN⟩:=ops_tends (Cm:=fun _ => C') (L:=C) (fun f args G r h => ⟨0,fun _ _ => hC f args G r h⟩) h
 exact hN N (Nat.le_refl _)
theorem vc_up {C C':CallF} (hC:∀ f args G r,C f args G = some r → C' f args G = some r) {n m:Nat} (hnm:n ≤ m):∀ {c:VC} {S:St} {x:VExit × St},VC.run C n c S = some x → VC.run C' m c S = some x
 | .skip,_,_,h => h
 | .exit _,_,_,h => h
 | .ret,_,_,h => h
 | .region gh ids ops keep,S,x,h => by
   simp only [VC.run] at h ⊢
   cases h1:ghosts gh S with
   | none => simp [h1] at h
   | some S1 =>
     simp only [h1] at h ⊢
     cases h2:S1.clean ids with
     | none => simp [h2] at h
     | some S2 =>
       simp only [h2] at h ⊢
       cases h3:runOps C ops S2 with
       | none => simp [h3] at h
       | some S3 =>
         rw [ops_up hC h3]
         rw [h3] at h
         exact h
 | .seq a b,S,x,h => by
   simp only [VC.run] at h ⊢
   cases h1:VC.run C n a S with
   | none => simp [h1] at h
   | some y =>
     rw [vc_up hC hnm h1]
     rw [h1] at h
     obtain ⟨e,S1⟩:=y
     cases e with
     | normal => exact vc_up hC hnm (c:=b) h
     | exit i => exact h
     | ret => exact h
 | .cond c a b,S,x,h => by
   simp only [VC.run] at h ⊢
   cases hc:S.ev c with
   | none => simp [hc] at h
   | some v =>
     rw [hc] at h
     cases v with
     | bool t =>
       cases t with
       | true => simp only [cond_true] at h ⊢;exact vc_up hC hnm h
       | false => simp only [cond_false] at h ⊢;exact vc_up hC hnm h
     | _ => simp at h
 | .block id a,S,x,h => by
   simp only [VC.run] at h ⊢
   cases h1:VC.run C n a S with
   | none => simp [h1] at h
   | some y =>
     rw [vc_up hC hnm h1]
     rw [h1] at h
     exact h
 | .loop gh keep a,S,x,h => by
   simp only [VC.run] at h ⊢
   cases h1:ghosts gh S with
   | none => simp [h1] at h
   | some S1 =>
     simp only [h1] at h ⊢
     exact iter_up (fun S x hx => vc_up hC hnm hx) hnm h
theorem call_tends {Cm:Nat → CallF} {L:CallF} (hL:Tends Cm L) {n:Nat} {vf:VFunc} {args:List V} {G:List GObj} {r:V × List GObj} (h:vf.call L n args G = some r):∃ N,∀ m k,N ≤ m → N ≤ k → vf.call (Cm m) k args G = some r:=by
 unfold VFunc.call at h ⊢
 cases ha:args.length == vf.nparams with
 | false => simp [ha] at h
 | true =>
   simp only [ha,cond_true] at h ⊢
   cases h1:VC.run L n vf.body { env:=zipEnv 0 args,objs:=[],toks:=[],glob:=G } with
   | none => simp [h1] at h
   | some y =>
     obtain ⟨N,hN⟩:=vc_tends hL h1
     refine ⟨N,fun m k hm hk => ?_⟩
     rw [hN m k hm hk]
     rw [h1] at h
     exact h
theorem vfc_up {C C':CallF} (hC:∀ f args G r,C f args G = some r → C' f args G = some r) {n m:Nat} (hnm:n ≤ m) {vf:VFunc} {args:List V} {G:List GObj} {r:V × List GObj} (h:vf.call C n args G = some r):vf.call C' m args G = some r:=by
 unfold VFunc.call at h ⊢
 cases ha:args.length == vf.nparams with
 | false => simp [ha] at h
 | true =>
   simp only [ha,cond_true] at h ⊢
   cases h1:VC.run C n vf.body { env:=zipEnv 0 args,objs:=[],toks:=[],glob:=G } with
   | none => simp [h1] at h
   | some y =>
     rw [vc_up hC hnm h1]
     rw [h1] at h
     exact h
theorem posts_up {C C':CallF} (hC:∀ f args G r,C f args G = some r → C' f args G = some r) {args:List V}:∀ {l:List FuncId} {G G':List GObj},posts C args l G = some G' → posts C' args l G = some G'
 | [],G,G',h => h
 | f :: l,G,G',h => by
   simp only [posts] at h ⊢
   split at h
   ·rename_i r G1 hc
    rw [hC _ _ _ _ hc]
    exact posts_up hC h
   ·cases h
theorem wrap_up {C C':CallF} (hC:∀ f args G r,C f args G = some r → C' f args G = some r) {vf:VFunc} {args:List V} {o o':Option (V × List GObj)} (ho:∀ r,o = some r → o' = some r) {r:V × List GObj}
  (h:wrap C vf args o = some r):wrap C' vf args o' = some r:=by
 unfold wrap at h ⊢
 rcases o with _ | ⟨r1,G1⟩
 ·cases h
 ·rw [ho _ rfl]
  simp only at h ⊢
  cases hd:vf.defs with
  | nil => rw [hd] at h;exact h
  | cons f fs =>
    rw [hd] at h
    simp only at h ⊢
    split at h
    ·split at h
     ·rename_i G2 hp
      rw [posts_up hC hp]
      exact h
     ·cases h
    ·cases h
theorem posts_tends {Cm:Nat → CallF} {L:CallF} (hL:Tends Cm L) {args:List V}:∀ {l:List FuncId} {G G':List GObj},posts L args l G = some G' → ∃ N,∀ m,N ≤ m → posts (Cm m) args l G = some G'
 | [],G,G',h => ⟨0,fun _ _ => h⟩
 | f :: l,G,G',h => by
   simp only [posts] at h
   split at h
   ·rename_i r G1 hc
    obtain ⟨N1,h1⟩:=hL _ _ _ _ hc
    obtain ⟨N2,h2⟩:=posts_tends hL h
    refine ⟨max N1 N2,fun m hm => ?_⟩
    simp only [posts]
    rw [h1 m (by omega)]
    exact h2 m (by omega)
   ·cases h
theorem one_up {C C':CallF} (hC:∀ f args G r,C f args G = some r → C' f args G = some r) {n m:Nat} (hnm:n ≤ m) {vf:VFunc} {args:List V} {G:List GObj} {r:V × List GObj} (h:vf.one C n args G = some r):vf.one C' m args G = some r :=
 wrap_up hC (fun _ h => vfc_up hC hnm h) h
theorem ans_one {C:CallF} {n:Nat} {vf:VFunc} {args:List V} {G:List GObj} {r:V × List GObj} (hs:vf.split = none):vf.ans C n args G = some r ↔ vf.one C n args G = some r:=by
 unfold VFunc.ans;rw [hs]
theorem ans_iff {C:CallF} {n:Nat} {vf:VFunc} {args:List V} {G:List GObj} {r:V × List GObj} {p:Nat} (hs:vf.split = some p) :
  vf.ans C n args G = some r ↔ (∃ m,args[p]? = some (.slice none m []) ∧ vf.one C n (args.set p .nils) G = some r ∧ vf.one C n (args.set p (.nonil m)) G = some r) ∨
   ((∀ m,args[p]? ≠ some (.slice none m [])) ∧ vf.one C n args G = some r):=by
 unfold VFunc.ans
 rw [hs]
 simp only
 split
 ·rename_i m hp
  constructor
  ·intro h;exact .inl ⟨m,hp,both_some h⟩
  ·rintro (⟨m',h0,h1,h2⟩ | ⟨h0,_⟩)
   ·rw [hp] at h0
    cases h0
    unfold VFunc.both
    rw [if_pos (h1.trans h2.symm)]
    exact h1
   ·exact absurd hp (h0 m)
 ·rename_i hno
  constructor
  ·intro h;exact .inr ⟨fun m e => hno m e,h⟩
  ·rintro (⟨m',h0,_⟩ | ⟨_,h⟩)
   ·exact absurd h0 (hno m')
   ·exact h
theorem ans_up {C C':CallF} (hC:∀ f args G r,C f args G = some r → C' f args G = some r) {n m:Nat} (hnm:n ≤ m) {vf:VFunc} {args:List V} {G:List GObj} {r:V × List GObj} (h:vf.ans C n args G = some r):vf.ans C' m args G = some r:=by
 cases hs:vf.split with
 | none => exact (ans_one hs).2 (one_up hC hnm ((ans_one hs).1 h))
 | some p =>
   rcases (ans_iff hs).1 h with ⟨k,h0,h1,h2⟩ | ⟨h0,h1⟩
   ·exact (ans_iff hs).2 (.inl ⟨k,h0,one_up hC hnm h1,one_up hC hnm h2⟩)
   ·exact (ans_iff hs).2 (.inr ⟨h0,one_up hC hnm h1⟩)
theorem call_up (F:FuncId → Option VFunc):∀ n f args G r,call F n f args G = some r → ∀ m,n ≤ m → call F m f args G = some r:=by
 intro n
 induction n with
 | zero => intro f args G r h;simp [call] at h
 | succ n ih =>
   intro f args G r h m hm
   obtain ⟨k,rfl⟩:∃ k,m = k + 1:=⟨m - 1,by omega⟩
   simp only [call] at h ⊢
   cases hf:F f with
   | none => simp [hf] at h
   | some vf =>
     rw [hf] at h
     simp only at h ⊢
     exact ans_up (fun f args G r h => ih f args G r h k (by omega)) (by omega) h
noncomputable def Lim (F:FuncId → Option VFunc):CallF:=fun f args G => by
 classical
 exact if h:∃ r,∃ n,call F n f args G = some r then some h.choose else none
theorem lim_iff {F:FuncId → Option VFunc} {f:FuncId} {args:List V} {G:List GObj} {r:V × List GObj}:Lim F f args G = some r ↔ ∃ n,call F n f args G = some r:=by
 unfold Lim
 constructor
 ·intro h
  split at h
  ·rename_i hx
   obtain ⟨n,hn⟩:=hx.choose_spec
   cases h
   exact ⟨n,hn⟩
  ·cases h
 ·rintro ⟨n,hn⟩
  have hx:∃ r,∃ n,call F n f args G = some r:=⟨r,n,hn⟩
  rw [dif_pos hx]
  obtain ⟨k,hk⟩:=hx.choose_spec
  have h1:=call_up F n _ _ _ _ hn (n + k) (by omega)
  have h2:=call_up F k _ _ _ _ hk (n + k) (by omega)
  rw [h1] at h2
  exact h2.symm
theorem lim_tends (F:FuncId → Option VFunc):Tends (call F) (Lim F):=fun f args G r h => by
 obtain ⟨n,hn⟩:=lim_iff.1 h
 exact ⟨n,fun m hm => call_up F n _ _ _ _ hn m hm⟩
theorem lim_of {F:FuncId → Option VFunc} {f:FuncId} {vf:VFunc} (hf:F f = some vf) {n:Nat} {args:List V} {G:List GObj} {r:V × List GObj} (hd:vf.defs = []) (hs:vf.split = none) (h:vf.call (Lim F) n args G = some r):Lim F f args G = some r:=by
 obtain ⟨N,hN⟩:=call_tends (lim_tends F) h
 refine lim_iff.2 ⟨N + 1,?_⟩
 simp only [call,hf]
 refine (ans_one hs).2 ?_
 unfold VFunc.one
 rw [wrap_nil hd]
 exact hN N N (Nat.le_refl _) (Nat.le_refl _)
theorem lim_of_split {F:FuncId → Option VFunc} {f:FuncId} {vf:VFunc} (hf:F f = some vf) {n k p m:Nat} {args:List V} {G:List GObj} {r:V × List GObj} (hd:vf.defs = []) (hs:vf.split = some p) (hp:args[p]? = some (.slice none m []))
  (h:vf.call (Lim F) n (args.set p .nils) G = some r) (h':vf.call (Lim F) k (args.set p (.nonil m)) G = some r):Lim F f args G = some r:=by
 obtain ⟨N,hN⟩:=call_tends (lim_tends F) h
 obtain ⟨M,hM⟩:=call_tends (lim_tends F) h'
 refine lim_iff.2 ⟨max N M + 1,?_⟩
 simp only [call,hf]
 refine (ans_iff hs).2 (.inl ⟨m,hp,?_,?_⟩)
 ·unfold VFunc.one
  rw [wrap_nil hd]
  exact hN _ _ (by omega) (by omega)
 ·unfold VFunc.one
  rw [wrap_nil hd]
  exact hM _ _ (by omega) (by omega)
theorem lim_of_nosplit {F:FuncId → Option VFunc} {f:FuncId} {vf:VFunc} (hf:F f = some vf) {n p:Nat} {args:List V} {G:List GObj} {r:V × List GObj} (hd:vf.defs = []) (hs:vf.split = some p) (hp:∀ m,args[p]? ≠ some (.slice none m []))
  (h:vf.call (Lim F) n args G = some r):Lim F f args G = some r:=by
 obtain ⟨N,hN⟩:=call_tends (lim_tends F) h
 refine lim_iff.2 ⟨N + 1,?_⟩
 simp only [call,hf]
 refine (ans_iff hs).2 (.inr ⟨hp,?_⟩)
 unfold VFunc.one
 rw [wrap_nil hd]
 exact hN N N (Nat.le_refl _) (Nat.le_refl _)
theorem lim_of_defs {F:FuncId → Option VFunc} {f:FuncId} {vf:VFunc} (hf:F f = some vf) {n i off:Nat} {G G1 G2:List GObj} {r:V} (hd:vf.defs ≠ []) (hs:vf.split = none) (h:vf.call (Lim F) n [.gptr i off] G = some (r,G1)) (hp:posts (Lim F) [.gptr i off] vf.defs.reverse G1 = some G2) :
  Lim F f [.gptr i off] G = some (.tuple [],G2):=by
 obtain ⟨N,hN⟩:=call_tends (lim_tends F) h
 obtain ⟨M,hM⟩:=posts_tends (lim_tends F) hp
 refine lim_iff.2 ⟨max N M + 1,?_⟩
 simp only [call,hf]
 refine (ans_one hs).2 ?_
 unfold VFunc.one
 rw [hN (max N M) (max N M) (by omega) (by omega)]
 unfold wrap
 have hM:=hM (max N M) (by omega)
 cases hdf:vf.defs with
 | nil => exact absurd hdf hd
 | cons f fs =>
   rw [hdf] at hM
   simp only [hM]
theorem lim_ok {P:Program} {F:FuncId → Option VFunc} (h:∀ n,CalleeOK P (call F n)):CalleeOK P (Lim F):=fun f args G r G' hr => by
 obtain ⟨n,hn⟩:=lim_iff.1 hr
 exact h n f args G r G' hn
end Go.Vm

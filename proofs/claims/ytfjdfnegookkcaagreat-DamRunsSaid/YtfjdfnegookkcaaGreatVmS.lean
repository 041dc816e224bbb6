/- The value machine: functions of the library that write into a slice of ints. (Not yet wired into the operations.) -/
import Derived.Test.YtfjdfnegookkcaaGreatVmR
namespace Go.Vm
set_option linter.all false
theorem insI_perm (x:Int):∀ l:List Int,(insI x l).Perm (x :: l)
 | [] => .refl _
 | y :: ys => by
   simp only [insI]
   cases decide (x ≤ y) with
   | true => exact .refl _
   | false => exact ((insI_perm x ys).cons y).trans (.swap x y ys)
theorem sortI_perm:∀ l:List Int,(sortI l).Perm l
 | [] => .refl _
 | x :: xs => (insI_perm x _).trans ((sortI_perm xs).cons x)
theorem insI_sorted {x:Int}:∀ {l:List Int},l.Pairwise (· ≤ ·) → (insI x l).Pairwise (· ≤ ·)
 | [],_ => by simp [insI]
 | y :: ys,h => by
   have hp:=List.pairwise_cons.1 h
   simp only [insI]
   by_cases hxy:x ≤ y
   ·simp only [hxy,decide_true,cond_true,List.pairwise_cons]
    refine ⟨fun z hz => ?_,hp.1,hp.2⟩
    rcases List.mem_cons.1 hz with rfl | hz
    ·exact hxy
    ·exact Int.le_trans hxy (hp.1 z hz)
   ·simp only [hxy,decide_false,cond_false,List.pairwise_cons]
    refine ⟨fun z hz => ?_,insI_sorted hp.2⟩
    rcases List.mem_cons.1 ((insI_perm x ys).mem_iff.1 hz) with rfl | hz
    ·omega
    ·exact hp.1 z hz
theorem sortI_sorted:∀ l:List Int,(sortI l).Pairwise (· ≤ ·)
 | [] => .nil
 | x :: xs => insI_sorted (sortI_sorted xs)
theorem sorted_unique:∀ {l m:List Int},l.Pairwise (· ≤ ·) → m.Pairwise (· ≤ ·) → l.Perm m → l = m
 | [],m,_,_,h => (List.perm_nil.1 h.symm).symm
 | x :: l,[],_,_,h => by simpa using List.perm_nil.1 h
 | x :: l,y :: m,h1,h2,h => by
   have p1:=List.pairwise_cons.1 h1
   have p2:=List.pairwise_cons.1 h2
   have e:x = y:=by
    have a:x ∈ y :: m:=h.mem_iff.1 (by simp)
    have b:y ∈ x :: l:=h.mem_iff.2 (by simp)
    rcases List.mem_cons.1 a with e | a
    ·exact e
    ·rcases List.mem_cons.1 b with e | b
     ·exact e.symm
     ·exact Int.le_antisymm (p1.1 y b) (p2.1 x a)
   subst e
   rw [sorted_unique p1.2 p2.2 (List.Perm.cons_inv h)]
theorem sortI_eq (l:List Int):sortI l = l.mergeSort fun x y => decide (x ≤ y):=by
 refine sorted_unique (sortI_sorted l) ?_ ((sortI_perm l).trans (List.mergeSort_perm l _).symm)
 have:=List.pairwise_mergeSort (le:=fun x y:Int => decide (x ≤ y)) (fun a b c h1 h2 => by simp at *;omega) (fun a b => by simp;omega) l
 exact this.imp (by simp)
def mutX (k b cap:Nat) (zs:List Int):Value :=
 match k with
 | 0 => .tuple #[]
 | _ => .slice (some ⟨b,0,none⟩) (dedup zs).length cap
theorem dedup_len:∀ l:List Int,(dedup l).length ≤ l.length
 | [] => Nat.le_refl _
 | [x] => Nat.le_refl _
 | x :: y :: r => by
   have:=dedup_len (y :: r)
   simp only [dedup]
   cases x == y <;> simp at * <;> omega
theorem mutF_len (k:Nat) (zs:List Int):(mutF k zs).length = zs.length:=by
 unfold mutF
 split
 ·exact (sortI_perm zs).length_eq
 ·have:=dedup_len zs
  simp;omega
theorem intsOf_spec:∀ {vs:List V} {zs:List Int},intsOf vs = some zs → vs = zs.map (V.int .i64)
 | [],zs,h => by simp [intsOf] at h;subst h;rfl
 | v :: vs,zs,h => by
   unfold intsOf at h
   split at h
   ·rename_i e;cases e
   ·rename_i n vs' e
    cases e
    split at h
    ·rename_i zs' h'
     cases h
     rw [intsOf_spec h']
     rfl
    ·cases h
   ·cases h
section
variable {P:Program} {E:Entry} {g g':Gh} {S S':St} {a:Act} {w w':World}
structure Written (w w':World) (b:Nat) (c':Array Value) (e:TypeId):Prop where
 os:w'.os = w.os
 tape:w'.tape = w.tape
 output:w'.output = w.output
 size:w.heap.size ≤ w'.heap.size
 same:∀ i,i ≠ b → i < w.heap.size → w'.heap[i]? = w.heap[i]?
 at_:w'.heap[b]? = some (.cells c' e (0,0))
theorem touch_written {b:Nat} {c':Array Value} {e:TypeId} (hw:Written w w' b c' e) (hm:g.m b = 0) (hfresh:E.w0.heap.size ≤ b ∨ ∃ i,i < E.N0 ∧ E.g0.γ i = b) (hcold:∀ p q,g.ow b ≠ .cell p q) :
  Touch E g S w g S.toks S.glob.length w' b none none where
 os:=hw.os
 tape:=hw.tape
 output:=hw.output
 size:=hw.size
 heap:=fun i hi hlt => hw.same i hi hlt
 m:=fun _ _ => rfl
 ow:=fun _ _ => rfl
 κ:=fun _ _ => rfl
 cp:=fun _ _ => rfl
 τ:=fun _ _ => rfl
 T:=fun _ _ => rfl
 γ:=fun _ _ => rfl
 nle:=Nat.le_refl _
 γnew:=fun i a b => absurd a (by omega)
 fresh:=hfresh.imp (fun z => z) .inl
 cold:=fun p q _ e => absurd e (hcold p q)
 imm:=fun o y ho _ => absurd ho (by omega)
 mle:=fun _ => Nat.le_refl _
theorem R.written (hR:R E g S a w) {id:Nat} {cs cs':List V} (hob:look id S.objs = some cs) {c':Array Value} {e:TypeId} (hw:Written w w' (g.κ id) c' e) (hcp:g.cp id ≤ c'.size)
  (hcs:∀ (j:Nat) (v:V),cs'[j]? = some v → v.isCell = true ∧ ∃ y,c'[j]? = some y ∧ XRel (S.cx g w) v y) :
  R E g { S with objs:=(id,cs') :: S.objs } a w' ∧ ∀ v x,XRel (S.cx g w) v x → XRel (S.cx g w') v x:=by
 obtain ⟨how,hbase,hm,_⟩:=hR.objs id cs hob
 have tt:=touch_written (S:=S) hw hm (.inl hbase) (fun _ _ e => by rw [how] at e;cases e)
 have hk:∀ i,Keeps (S.cx g w) ⟨w'.heap,g,S.glob.length,S.toks⟩ i:=fun i => tt.keeps hR (fun e => by cases e) (fun e => by cases e) (fun _ e => by rw [how] at e;cases e)
 refine ⟨R.touched tt hR rfl rfl (fun i => .inl (hk i)) (fun s v hs => .inl hs) (fun i cs0 hi => ?_) (fun f k b hf hb => .inl ⟨(fun e => by cases e),fun _ e => by rw [how] at e;cases e⟩)
  (fun i o hi => .inl ⟨hi,fun _ => ⟨fun e => (by rw [how] at e;cases e),fun _ e => (by rw [how] at e;cases e)⟩⟩),fun v x h => h.mono tt.le fun i => .inl (hk i)⟩
 rw [look_cons] at hi
 by_cases hii:id = i
 ·subst hii
  rw [if_pos rfl] at hi
  cases hi
  refine .inr ⟨how,hbase,hm,c',e,hw.at_,hcp,fun j u hu => ?_⟩
  obtain ⟨q1,y,q2,q3⟩:=hcs j u hu
  exact ⟨q1,y,q2,q3.mono tt.le fun i => .inl (hk i)⟩
 ·rw [if_neg hii] at hi
  exact .inl ⟨hi,(fun e => by cases e),fun _ e => hii (by rw [how] at e;cases e;rfl)⟩
structure MutOK (P:Program) (k:Nat) (f:FuncId):Prop where
 fn:∃ fn,P.funcs[f]? = some fn ∧ fn.body.isSome = true ∧ (fn.name == "runtime.NumGoroutine") = false
 run:∀ (w:World) (b cap:Nat) (zs:List Int) (c:Array Value) (e:TypeId),w.heap[b]? = some (.cells c e (0,0)) → (∀ (j:Nat) z,zs[j]? = some z → c[j]? = some (.int .i64 z)) → zs.length ≤ cap → cap ≤ c.size → zs.length ≤ lim →
  Calls P f #[.slice (some ⟨b,0,none⟩) zs.length cap] w fun r w' => r = .returned (mutX k b cap zs) ∧ ∃ c',Written w w' b c' e ∧ c'.size = c.size ∧
   (∀ (j:Nat) z,(mutF k zs)[j]? = some z → c'[j]? = some (.int .i64 z)) ∧ ∀ j,zs.length ≤ j → c'[j]? = c[j]?
theorem do_mut {o:Oper} {f q:Operand} {ts:Array TypeId} {k i:Nat} {fid:FuncId} {x:Opd} (ho:o.op = .call ⟨.value f,#[q],ts⟩) (hf:a.eval f = .func (.func fid) #[] #[]) (hq:okOpd q x = true) (hm:MutOK P k fid)
  (hR:R E g S a w) (hd:∀ d,o.dst = some d → d < E.nt) (hrun:S.mut k i o.dst (S.ev x) = some S'):Does P E o S S' a w:=by
 unfold St.mut at hrun
 split at hrun
 ·rename_i id s n hx
  split at hrun
  ·rename_i cs hob
   cases hc:(id == i && (s == 1) && Nat.ble n cs.length && Nat.ble n lim) with
   | false => simp [hc] at hrun
   | true =>
     simp only [hc,cond_true] at hrun
     simp only [Bool.and_eq_true,beq_iff_eq] at hc
     obtain ⟨⟨⟨rfl,rfl⟩,hn⟩,hnl⟩:=hc
     have hn:=Nat.le_of_ble_eq_true hn
     have hnl:=Nat.le_of_ble_eq_true hnl
     split at hrun
     ·rename_i zs hzs
      cases hrun
      have hzs:=intsOf_spec hzs
      have hlen:zs.length = n:=by
       have:=congrArg List.length hzs
       simp at this
       omega
      obtain ⟨how,hbase,hm0,c,e,hh,hcp,hj⟩:=hR.objs id cs hob
      obtain ⟨cap,ex,hcap,hcc⟩:∃ cap,a.eval q = .slice (some ⟨g.κ id,0,none⟩) n cap ∧ n ≤ cap ∧ cap * 1 = g.cp id:=by
       have hr:=ev_rel hR hq hx
       generalize a.eval q = y at hr
       cases hr with
       | plain h _ => cases h
       | lref _ _ _ cap h1 h2 => exact ⟨cap,rfl,h1,h2⟩
      obtain ⟨fn,hfn,hbody,hname⟩:=hm.fn
      have hexec:(execOp a.eval o).run P w = .ok (.enter fid (#[q].map a.eval)) w:=by
       simp [execOp,ho,resolve,hf,Deferred.ofValue,invoke,callFunc,hfn]
       simp at hname
       cases hb:fn.body with
       | none => simp [hb] at hbody
       | some c => simp [hname]
      have hcell:∀ (j:Nat) z,zs[j]? = some z → c[j]? = some (.int .i64 z):=fun j z hz => by
       have hjn:j < n:=by rw [← hlen];exact lt_of_get? hz
       have hv:cs[j]? = some (.int .i64 z):=by
        have:(cs.take n)[j]? = some (.int .i64 z):=by rw [hzs];simp [hz]
        rw [List.getElem?_take,if_pos hjn] at this
        exact this
       obtain ⟨_,y,hy,hr⟩:=hj j _ hv
       rw [hy,rel_int hr]
      intro K Q hK
      unfold Oper.wp
      rw [hexec,Oper.upon_enter]
      have hcalls:=hm.run w (g.κ id) cap zs c e hh hcell (by omega) (by omega) (by omega)
      rw [show #[q].map a.eval = #[.slice (some ⟨g.κ id,0,none⟩) zs.length cap] from by simp [ex,hlen]]
      refine hcalls.mono fun r w' ⟨he,c',hw,hsz,hnew,hkeep⟩ => ?_
      subst he
      have hml:=mutF_len k zs
      obtain ⟨r1,r2⟩:=hR.written hob (cs':=(mutF k zs).map (V.int .i64) ++ cs.drop n) hw (by omega) (fun j v hv => by
       rw [List.getElem?_append] at hv
       simp only [List.length_map,hml,hlen] at hv
       split at hv
       ·simp only [List.getElem?_map,Option.map_eq_some_iff] at hv
        obtain ⟨z,hz,rfl⟩:=hv
        exact ⟨rfl,_,hnew j z hz,.plain (.int _ _) (plain_tok rfl)⟩
       ·rename_i hjn
        rw [List.getElem?_drop,show n + (j - n) = j from by omega] at hv
        obtain ⟨q1,y,q2,q3⟩:=hj j v hv
        exact ⟨q1,y,by rw [hkeep j (by omega)];exact q2,q3⟩)
      refine hK g _ _ (r1.put hd ?_)
      cases k with
      | zero => exact .tuple _ _ rfl (fun i v x hv _ => by simp at hv)
      | succ k => exact XRel.lref (X:=({ S with objs:=(id,(mutF (k + 1) zs).map (V.int .i64) ++ cs.drop n) :: S.objs }:St).cx g w') id 1 (dedup zs).length cap (by have:=dedup_len zs;omega) hcc
     ·cases hrun
  ·cases hrun
 ·cases hrun
end
end Go.Vm

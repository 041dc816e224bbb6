/- The value machine: blocks that calls share, and maps. -/
import Derived.MapKept
import Derived.WideKeyRuns
import Derived.Test.YtfjdfnegookkcaaGreatVm9
import Derived.Test.YtfjdfnegookkcaaGreatVmP
namespace Go.Vm
set_option linter.all false
section
variable {P:Program} {E:Entry} {g g':Gh} {S S':St} {a:Act} {w w':World}
theorem R.newGlob (hR:R E g S a w) {ob:Obj} (hw:w'.heap = w.heap.push ob) (h1:w'.os = w.os) (h2:w'.tape = w.tape) (h3:w'.output = w.output) {o:GObj}
  (ho:∀ g':Gh,g'.m w.heap.size = 0 → Le ⟨w.heap,g,S.glob.length,[]⟩ ⟨w'.heap,g',S.glob.length + 1,[]⟩ → GObjRel w'.heap g' (S.glob.length + 1) w.heap.size o ∧ Owns w'.heap g' w.heap.size o) :
  ∃ g',R E g' { S with glob:=S.glob ++ [o] } a w' ∧ g'.γ S.glob.length = w.heap.size:=by
 let g':Gh:={ g with m:=upd g.m w.heap.size 0,γ:=upd g.γ S.glob.length w.heap.size,ow:=upd g.ow w.heap.size (.glob S.glob.length) }
 have t':Touch E g S w g' S.toks (S.glob.length + 1) w' w.heap.size none none:=touch_new hR hw h1 h2 h3 (fun b hb => upd_ne _ _ hb) (fun b hb => upd_ne _ _ hb)
  (fun i _ => rfl) (fun i _ => rfl) (fun i _ => rfl) (fun i _ => rfl) (fun i hi => upd_ne _ _ (by omega)) (by omega) (fun i h1 h2 => by
   have:i = S.glob.length:=by omega
   subst this
   show _ ≤ upd g.γ _ _ _
   rw [upd_same];exact hR.same.size)
 have hkeep:∀ i,Keeps (S.cx g w) ⟨w'.heap,g',S.glob.length + 1,S.toks⟩ i:=fun i => t'.keeps hR (fun e => by cases e) (fun e => by cases e) (fun h => absurd h (Nat.lt_irrefl _))
 have le0:Le ⟨w.heap,g,S.glob.length,[]⟩ ⟨w'.heap,g',S.glob.length + 1,[]⟩:=⟨t'.le.size,t'.le.cells,t'.le.m,t'.le.nle,t'.le.γ⟩
 have hγ:g'.γ S.glob.length = w.heap.size:=upd_same _ _ _
 refine ⟨g',R.touched t' hR rfl (by simp) (fun i => .inl (hkeep i)) (fun s v hs => .inl hs)
  (fun id cs' hi => .inl ⟨hi,(fun e => by cases e),fun h => absurd h (Nat.lt_irrefl _)⟩) (fun f k b hf hb => .inl ⟨(fun e => by cases e),fun h => absurd h (Nat.lt_irrefl _)⟩) (fun k o' hko => ?_),hγ⟩
 simp only [List.getElem?_append] at hko
 split at hko
 ·exact .inl ⟨hko,fun h => absurd h (Nat.lt_irrefl _)⟩
 ·rename_i hk
  have:k = S.glob.length:=by
   rcases Nat.eq_zero_or_pos (k - S.glob.length) with h | h
   ·omega
   ·rw [List.getElem?_eq_none (by simp;omega)] at hko;cases hko
  subst this
  simp at hko
  subst hko
  exact .inr ⟨by rw [hγ];exact upd_same _ _ _,by rw [hγ];exact (ho g' (upd_same _ _ _) le0).1,by rw [hγ];exact (ho g' (upd_same _ _ _) le0).2⟩
theorem push_heap {ob:Obj} (hw:w'.heap = w.heap.push ob):w'.heap[w.heap.size]? = some ob:=by
 rw [hw];simp
theorem do_galloc {o:Oper} {t:TypeId} {i:TypeInfo} {z:Value} {sh:Sh} {zero:List V} {C:CallF} (ho:o.op = .alloc t) (hi:P.info? t = some i) (hz:i.zero = some z) (hc:okVals z.cells.toList zero = true)
  (hR:R E g S a w) (hd:∀ d,o.dst = some d → d < E.nt) (hrun:VO.run C o.dst S (.galloc sh zero) = some S'):Does P E o S S' a w:=by
 simp only [VO.run] at hrun
 split at hrun
 ·rename_i cs hg
  cases hrun
  obtain ⟨e1,e2⟩:=gcels_len hg
  obtain ⟨hl,hx⟩:=okVals_rel (X:=S.cx g w) hc
  have hw:(w.alloc (.cells z.cells t)).heap = w.heap.push (.cells z.cells t (0,0)):=rfl
  obtain ⟨g',hR',hγ⟩:=hR.newGlob (w':=w.alloc (.cells z.cells t)) (o:=.cells cs) hw rfl rfl rfl (fun g' hm le => by
   refine ⟨⟨hm,z.cells,t,push_heap hw,by simp at hl;omega,fun j u y hu hy => ?_⟩,fun j n es y hu hy => ?_⟩
   ·obtain ⟨u0,s,hu0,hgs⟩:=gcels_get hg _ u hu
    obtain ⟨_,_,hxx⟩:=hx j u0 y hu0 (by simpa using hy)
    obtain ⟨q1,q2,q3,_⟩:=gcel_rel hgs hxx
    exact ⟨q1,q2,q3.mono le (fun d => .inr (q2 d))⟩
   ·rw [cellAt_of (push_heap hw)] at hy
    obtain ⟨u0,s,hu0,hgs⟩:=gcels_get hg _ _ hu
    obtain ⟨_,_,hxx⟩:=hx j u0 y hu0 (by simpa using hy)
    obtain ⟨_,_,_,_,q5⟩:=gcel_rel hgs hxx
    obtain ⟨rfl,hz⟩:=q5 n es rfl
    exact end_nil hz)
  refine Does.value (x:=.pointer (some ⟨w.heap.size,0,none⟩)) (w':=w.alloc (.cells z.cells t)) (g':=g') ?_ (hR'.put hd ?_)
  ·simp [execOp,ho,Instr.alloc,zeroValue,typeInfo,hi,hz,newVar,newRow]
  ·rw [← hγ];exact .gptr _ 0 (by simp [St.cx])
 ·cases hrun
theorem do_mkmap {o:Oper} {t:TypeId} {C:CallF} (ho:o.op = .makeMap t none)
  (hR:R E g S a w) (hd:∀ d,o.dst = some d → d < E.nt) (hrun:VO.run C o.dst S .mkmap = some S'):Does P E o S S' a w:=by
 simp only [VO.run] at hrun
 cases hrun
 have hw:(w.alloc (.map #[] 0)).heap = w.heap.push (.map #[] 0):=rfl
 obtain ⟨g',hR',hγ⟩:=hR.newGlob (w':=w.alloc (.map #[] 0)) (o:=.map []) hw rfl rfl rfl (fun g' hm le => ⟨⟨hm,#[],0,push_heap hw,rfl,fun j u y hu _ => by simp at hu⟩,trivial⟩)
 refine Does.value (x:=.map (some w.heap.size)) (w':=w.alloc (.map #[] 0)) (g':=g') ?_ (hR'.put hd ?_)
 ·simp [execOp,ho,Instr.makeMap,newObj]
  rfl
 ·rw [← hγ];exact .map _ (by simp [St.cx])
structure KeyT (P:Program) (t:TypeId) (ag:Bool) (ks:List Nat):Prop where
 leafs:leafs P 100 t = some ks
 agg:aggOf P t = some ag
 size:sizeIn P t = some ks.length
theorem KeyT.one {t:TypeId} {k:Nat} (h:KeyT P t false [k]):(k = 0 ∧ ∃ q,P.underlying t = some (.int q)) ∨ (k = 1 ∧ P.underlying t = some .bool) ∨ (k = 2 ∧ P.underlying t = some .string):=by
 have h1:=h.leafs
 have h2:=h.agg
 rw [show (100:Nat) = 99 + 1 from rfl,Go.Vm.leafs] at h1
 unfold aggOf at h2
 split at h1
 ·rename_i q hu;cases hc:sizeIn P t == some 1 <;> simp [hc] at h1;exact .inl ⟨h1.symm,q,hu⟩
 ·rename_i hu;cases hc:sizeIn P t == some 1 <;> simp [hc] at h1;exact .inr (.inl ⟨h1.symm,hu⟩)
 ·rename_i hu;cases hc:sizeIn P t == some 1 <;> simp [hc] at h1;exact .inr (.inr ⟨h1.symm,hu⟩)
 ·rename_i fs hu;simp [hu] at h2
 ·rename_i n e hu;simp [hu] at h2
 ·cases h1
theorem eqCell_same {X:Cx} {k:Nat} {u v:V} {x y:Value} (hx:XRel X u x) (hy:XRel X v y) (h:eqCell k u v = some true):x = y:=by
 unfold eqCell at h
 split at h
 ·rename_i q1 c q2 d
  cases hk:decide (q1 = q2) with
  | false => simp [hk] at h
  | true =>
    have:=of_decide_eq_true hk
    subst this
    simp at h
    subst h
    rw [hx.int_inv,hy.int_inv]
 ·rename_i c d
  simp at h
  subst h
  rw [hx.bool_inv,hy.bool_inv]
 ·simp at h
  subst h
  obtain ⟨p,rfl,e1⟩:=hx.str_inv
  obtain ⟨q,rfl,e2⟩:=hy.str_inv
  have:p.data.toList = q.data.toList:=e1.trans e2.symm
  obtain ⟨⟨p⟩⟩:=p
  obtain ⟨⟨q⟩⟩:=q
  simp at this
  rw [this]
 ·cases h
theorem eqCells_same {X:Cx}:∀ {ks:List Nat} {cs ds:List V} {xs ys:List Value},eqCells ks cs ds = some true → cs.length = ks.length → ds.length = ks.length → xs.length = ks.length → ys.length = ks.length →
  (∀ (j:Nat) (v:V) (y:Value),cs[j]? = some v → xs[j]? = some y → XRel X v y) → (∀ (j:Nat) (v:V) (y:Value),ds[j]? = some v → ys[j]? = some y → XRel X v y) → xs = ys
 | [],cs,ds,xs,ys,_,_,_,h1,h2,_,_ => by
   exact (List.length_eq_zero_iff.1 h1).trans (List.length_eq_zero_iff.1 h2).symm
 | k :: ks,[],_,_,_,_,h,_,_,_,_,_ => by simp at h
 | k :: ks,_ :: _,[],_,_,_,_,h,_,_,_,_ => by simp at h
 | k :: ks,_ :: _,_ :: _,[],_,_,_,_,h,_,_,_ => by simp at h
 | k :: ks,_ :: _,_ :: _,_ :: _,[],_,_,_,_,h,_,_ => by simp at h
 | k :: ks,c :: cs,d :: ds,x :: xs,y :: ys,h,h1,h2,h3,h4,r1,r2 => by
   simp only [eqCells] at h
   split at h
   ·rename_i p q hp hq
    simp only [Option.some.injEq,Bool.and_eq_true] at h
    obtain ⟨rfl,rfl⟩:=h
    have e1:x = y:=eqCell_same (r1 0 c x rfl rfl) (r2 0 d y rfl rfl) hp
    have e2:xs = ys:=eqCells_same hq (by simpa using h1) (by simpa using h2) (by simpa using h3) (by simpa using h4)
     (fun j v y a b => r1 (j + 1) v y (by simpa using a) (by simpa using b)) (fun j v y a b => r2 (j + 1) v y (by simpa using a) (by simpa using b))
    rw [e1,e2]
   ·cases h
theorem keq_does {t:TypeId} {ag:Bool} {ks:List Nat} (hk:KeyT P t ag ks) {X:Cx} {u v:V} {x y:Value} (hx:XRel X u x) (hy:XRel X v y) {b:Bool} (h:V.keq ag ks u v = some b) :
  (Op.equal t x y).run P w = .ok b w ∧ (b = true → x = y):=by
 unfold V.keq at h
 split at h
 ·split at h
  ·rename_i cs ds
   cases hl:(cs.length == ks.length && ds.length == ks.length) with
   | false => simp [hl] at h
   | true =>
     simp only [hl,cond_true] at h
     simp only [Bool.and_eq_true,beq_iff_eq] at hl
     obtain ⟨xs,e1,l1,r1⟩:=rel_agg hx
     obtain ⟨ys,e2,l2,r2⟩:=rel_agg hy
     obtain ⟨u,v,q1,q2,q3⟩:=leafs_does 100 t ks hk.leafs w X 9900 cs ds xs ys 0 b ⟨l1,r1⟩ ⟨l2,r2⟩ (by simpa using h)
     rw [run_part_agg hk.agg hk.size] at q1 q2
     cases q1;cases q2
     have ex:xs.extract 0 (0 + ks.length) = xs:=by simp [← hl.1,l1]
     have ey:ys.extract 0 (0 + ks.length) = ys:=by simp [← hl.2,l2]
     rw [ex,ey] at q3
     rw [e1,e2]
     refine ⟨q3,fun hb => ?_⟩
     subst hb
     congr 1
     apply Array.ext'
     exact eqCells_same h hl.1 hl.2 (by simp;omega) (by simp;omega) (fun j v y a b => r1 j v y a (by simpa using b)) (fun j v y a b => r2 j v y a (by simpa using b))
  ·cases h
 ·split at h
  ·rename_i k
   refine ⟨?_,fun hb => ?_⟩
   ·show (Op.equalIn (9999 + 1) t x y).run P w = _
    exact eqCell_does hk.one hx hy h
   ·subst hb;exact eqCell_same hx hy h
  ·cases h
theorem eqCell_bits {X:Cx} {k:Nat} {u v:V} {x:Value} (hx:XRel X u x) {b:Bool} (h:eqCell k u v = some b) (n:Nat):Instr.sameBits n x x = true:=by
 unfold eqCell at h
 split at h
 ·rw [hx.int_inv];simp [Instr.sameBits]
 ·rw [hx.bool_inv];simp [Instr.sameBits]
 ·obtain ⟨p,rfl,_⟩:=hx.str_inv;simp only [Instr.sameBits];exact (Go.MapKept.bytes_beq p p).2 rfl
 ·cases h
theorem eqCells_bits {X:Cx} (n:Nat):∀ {ks:List Nat} {cs ds:List V} {xs:List Value} {b:Bool},eqCells ks cs ds = some b → xs.length = ks.length →
  (∀ (j:Nat) (v:V) (y:Value),cs[j]? = some v → xs[j]? = some y → XRel X v y) → ((xs.zip xs).all fun (x,y) => Instr.sameBits n x y) = true
 | [],_,_,xs,_,_,h1,_ => by rw [List.length_eq_zero_iff.1 h1];rfl
 | k :: ks,[],_,_,_,h,_,_ => by simp [eqCells] at h
 | k :: ks,_ :: _,[],_,_,h,_,_ => by simp [eqCells] at h
 | k :: ks,_ :: _,_ :: _,[],_,_,h,_ => by simp at h
 | k :: ks,c :: cs,d :: ds,x :: xs,b,h,h1,r => by
   simp only [eqCells] at h
   split at h
   ·rename_i p q hp hq
    simp only [List.zip_cons_cons,List.all_cons,Bool.and_eq_true]
    exact ⟨eqCell_bits (r 0 c x rfl rfl) hp n,eqCells_bits n hq (by simpa using h1) (fun j v y a b => r (j + 1) v y (by simpa using a) (by simpa using b))⟩
   ·cases h
theorem keq_stays {ag:Bool} {ks:List Nat} {X:Cx} {u:V} {x:Value} (hx:XRel X u x) {b:Bool} (h:V.keq ag ks u u = some b):(Instr.keyThatStays x x).run P w = .ok x w:=by
 have hs:Instr.sameBits 10000 x x = true:=by
  unfold V.keq at h
  split at h
  ·split at h
   ·rename_i ds
    cases hl:(ds.length == ks.length) with
    | false => simp [hl] at h
    | true =>
      simp only [hl,Bool.and_self,cond_true] at h
      simp only [beq_iff_eq] at hl
      obtain ⟨xs,rfl,l1,r1⟩:=rel_agg hx
      have:=eqCells_bits 9999 (xs:=xs.toList) h (by simp;omega) (fun j v y a b => r1 j v y a (by simpa using b))
      simp only [Instr.sameBits,beq_self_eq_true,Bool.true_and]
      exact this
   ·cases h
  ·split at h
   ·exact eqCell_bits hx h _
   ·cases h
 simp [Instr.keyThatStays,hs]
def ChkAt (P:Program) (em:Bool) (m:Nat) (t:TypeId) (ks:List Nat):Prop :=
 ∀ (w:World) (X:Cx) (d:Nat) (cs:List V) (xs:Array Value) (o:Nat) (b:Bool),CellsRel X cs xs → eqCells ks (cs.drop o) (cs.drop o) = some b →
   ∃ x,(part t xs o).run P w = .ok x w ∧ (Instr.checkKey em (m + d) t x).run P w = .ok () w
theorem chkFields_does {rec:TypeId → Option (List Nat)} {em:Bool} {m:Nat} (ih:∀ t ks,rec t = some ks → ChkAt P em m t ks) (w:World) (X:Cx) (d:Nat) (cs:List V) (xs:Array Value)
  (hx:CellsRel X cs xs):∀ (fs:List Field) (off:Nat) (ks:List Nat) (b:Bool),leafFs rec off fs = some ks → eqCells ks (cs.drop off) (cs.drop off) = some b →
  ((forIn fs PUnit.unit fun f _ => do
    if f.name ≠ "_" then Instr.checkKey em (m + d) f.type (← part f.type xs f.offset)
    pure (ForInStep.yield PUnit.unit):Sem PUnit)).run P w = .ok PUnit.unit w
 | [],off,ks,b,h,he => by simp
 | f :: fs,off,ks,b,h,he => by
   simp only [leafFs] at h
   cases hc:((f.name != "_") && f.offset == off) with
   | false => simp [hc] at h
   | true =>
     simp only [hc,cond_true] at h
     simp only [Bool.and_eq_true,bne_iff_ne,ne_eq,beq_iff_eq] at hc
     split at h
     ·rename_i k1 h1
      split at h
      ·rename_i r h2
       simp only [Option.some.injEq] at h
       subst h
       obtain ⟨b1,b2,e1,e2,rfl⟩:=eqCells_append he
       rw [List.drop_drop] at e2
       obtain ⟨x,p1,p2⟩:=ih f.type k1 h1 w X d cs xs off b1 hx e1
       have hrest:=chkFields_does ih w X d cs xs hx fs (off + k1.length) r b2 h2 e2
       simp only [List.forIn_cons,Sem.run_bind,ne_eq,hc.1,not_false_eq_true,if_true,hc.2,p1,p2,Result.andThen_ok,Sem.run_pure]
       exact hrest
      ·cases h
     ·cases h
theorem leafs_chk (em:Bool):∀ (m:Nat) (t:TypeId) (ks:List Nat),leafs P m t = some ks → ChkAt P em m t ks
 | 0,t,ks,h => by simp [leafs] at h
 | m + 1,t,ks,h => by
   intro w X d cs xs o b hx he
   have ih:=leafs_chk em m
   have one:∀ k,ks = [k] → aggOf P t = some false → (∃ td,P.underlying t = some td ∧ ((∃ q,td = .int q) ∨ td = .bool ∨ td = .string)) →
     ∃ x,(part t xs o).run P w = .ok x w ∧ (Instr.checkKey em (m + 1 + d) t x).run P w = .ok () w:=by
    intro k hk ha ⟨td,hu,htd⟩
    subst hk
    cases hcs:cs.drop o with
    | nil => rw [hcs] at he;simp [eqCells] at he
    | cons u us =>
      obtain ⟨x,h1,h2⟩:=run_part_one (w:=w) ha hx (o:=o) (v:=u) (by rw [hcs];rfl)
      refine ⟨x,h1,?_⟩
      rw [show m + 1 + d = (m + d) + 1 from by omega,Instr.checkKey]
      simp only [Sem.run_bind,run_underlying hu,Result.andThen_ok]
      rcases htd with ⟨q,rfl⟩ | rfl | rfl <;> rfl
   have agg:∀ n,aggOf P t = some true → sizeIn P t = some n → n = ks.length → (∀ xs,CellsRel X ((cs.drop o).take n) xs →
     eqCells ks ((cs.drop o).take n) ((cs.drop o).take n) = some b → (Instr.checkKey em (m + 1 + d) t (.agg xs)).run P w = .ok () w) →
     ∃ x,(part t xs o).run P w = .ok x w ∧ (Instr.checkKey em (m + 1 + d) t x).run P w = .ok () w:=by
    intro n ha hs hn hk
    obtain ⟨l1,l2⟩:=eqCells_le he
    simp only [List.length_drop] at l1 l2
    refine ⟨_,run_part_agg ha hs,?_⟩
    rcases Nat.eq_zero_or_pos n with h0 | h0
    ·have e1:CellsRel X ((cs.drop o).take n) (xs.extract o (o + n)):=⟨by subst h0;simp;omega,by subst h0;simp⟩
     exact hk _ e1 (eqCells_take (by omega) he)
    ·exact hk _ (hx.sub o n (by omega)) (eqCells_take (by omega) he)
   simp only [leafs] at h
   split at h
   ·rename_i q hu
    cases hc:sizeIn P t == some 1 <;> simp [hc] at h
    exact one 0 h.symm (by simp [aggOf,hu]) ⟨_,hu,.inl ⟨q,rfl⟩⟩
   ·rename_i hu
    cases hc:sizeIn P t == some 1 <;> simp [hc] at h
    exact one 1 h.symm (by simp [aggOf,hu]) ⟨_,hu,.inr (.inl rfl)⟩
   ·rename_i hu
    cases hc:sizeIn P t == some 1 <;> simp [hc] at h
    exact one 2 h.symm (by simp [aggOf,hu]) ⟨_,hu,.inr (.inr rfl)⟩
   ·rename_i fs hu
    cases hst:P.stoodInHeld t with
    | true => simp [hst] at h
    | false =>
      simp only [hst,cond_false] at h
      split at h
      ·rename_i k1 h1
       cases hc:sizeIn P t == some k1.length with
       | false => simp [hc] at h
       | true =>
         simp only [hc,cond_true,Option.some.injEq] at h
         subst h
         refine agg _ (by simp [aggOf,hu]) (by simpa using hc) rfl fun xs r1 he => ?_
         rw [show m + 1 + d = (m + d) + 1 from by omega,Instr.checkKey]
         simp only [Sem.run_bind,run_underlying hu,Result.andThen_ok]
         rw [← Array.forIn_toList]
         have:=chkFields_does ih w X d _ xs r1 _ 0 k1 b h1 he
         simp at this ⊢
         rw [this]
         rfl
      ·cases h
   ·rename_i n e hu
    split at h
    ·rename_i k1 h1
     cases hc:((sizeIn P e == some k1.length) && (sizeIn P t == some (n * k1.length))) with
     | false => simp [hc] at h
     | true =>
       simp only [hc,cond_true,Option.some.injEq] at h
       simp only [Bool.and_eq_true,beq_iff_eq] at hc
       subst h
       refine agg _ (by simp [aggOf,hu]) hc.2 (reps_length _ _).symm fun xs r1 he => ?_
       have hsz:=hc.1
       have hsz':=hsz
       simp only [sizeIn,Option.map_eq_some_iff] at hsz'
       obtain ⟨i,hi,hsz'⟩:=hsz'
       rw [show m + 1 + d = (m + d) + 1 from by omega,Instr.checkKey]
       simp only [Sem.run_bind,run_underlying hu,Result.andThen_ok]
       simp only [Std.Legacy.Range.forIn_eq_forIn_range',Std.Legacy.Range.size,Nat.sub_zero,Nat.add_one_sub_one,Nat.div_one]
       suffices hgo:∀ (n i:Nat) (b:Bool),eqCells (reps n k1) (((cs.drop o).take (reps n k1).length).drop 0) [] = none ∨ True → True by
        have hloop:∀ (n i:Nat) (b:Bool) (c:List V),CellsRel X c xs → eqCells (reps n k1) (c.drop (i * k1.length)) (c.drop (i * k1.length)) = some b →
          ((forIn (List.range' i n) PUnit.unit fun j _ => do
            let z ← sizeOf e
            Instr.checkKey em (m + d) e (← part e xs (j * z))
            pure (ForInStep.yield PUnit.unit):Sem PUnit)).run P w = .ok PUnit.unit w:=by
         intro n
         induction n with
         | zero => intro i b c _ _;simp
         | succ n ihn =>
           intro i b c hc he
           simp only [reps] at he
           obtain ⟨b1,b2,e1,e2,rfl⟩:=eqCells_append he
           rw [List.drop_drop,show i * k1.length + k1.length = (i + 1) * k1.length from by rw [Nat.succ_mul]] at e2
           obtain ⟨x,p1,p2⟩:=ih e k1 h1 w X d c xs _ b1 hc e1
           rw [List.range'_succ]
           simp only [List.forIn_cons,Sem.run_bind,run_sizeOf' hsz,Result.andThen_ok,p1,p2,Sem.run_pure]
           have:=ihn (i + 1) b2 c hc e2
           simpa using this
        have:=hloop n 0 b _ r1 (by simpa using he)
        simp at this ⊢
        rw [this]
        rfl
       intros;trivial
    ·cases h
   ·cases h
theorem keq_chk {t:TypeId} {ag:Bool} {ks:List Nat} (hk:KeyT P t ag ks) {X:Cx} {u:V} {x:Value} (hx:XRel X u x) {b:Bool} (h:V.keq ag ks u u = some b) (em:Bool) :
  (Instr.checkKey em 10000 t x).run P w = .ok () w:=by
 unfold V.keq at h
 split at h
 ·split at h
  ·rename_i ds
   cases hl:(ds.length == ks.length) with
   | false => simp [hl] at h
   | true =>
     simp only [hl,Bool.and_self,cond_true] at h
     simp only [beq_iff_eq] at hl
     obtain ⟨xs,e1,l1,r1⟩:=rel_agg hx
     obtain ⟨u,q1,q3⟩:=leafs_chk em 100 t ks hk.leafs w X 9900 ds xs 0 b ⟨l1,r1⟩ (by simpa using h)
     rw [run_part_agg hk.agg hk.size] at q1
     cases q1
     have ex:xs.extract 0 (0 + ks.length) = xs:=by simp [← hl,l1]
     rw [ex] at q3
     rw [e1]
     exact q3
  ·cases h
 ·split at h
  ·show (Instr.checkKey em (9999 + 1) t x).run P w = _
   rw [Instr.checkKey]
   rcases hk.one with ⟨_,q,hu⟩ | ⟨_,hu⟩ | ⟨_,hu⟩ <;> simp only [Sem.run_bind,run_underlying hu,Result.andThen_ok] <;> rfl
  ·cases h
def EsRel (X:Cx) (es:List (V × V)) (l:List MapEntry):Prop :=
 es.length = l.length ∧ ∀ (j:Nat) (p:V × V) (y:MapEntry),es[j]? = some p → l[j]? = some y → XRel X p.1 y.key
theorem EsRel.tail {X:Cx} {p:V × V} {es:List (V × V)} {y:MapEntry} {l:List MapEntry} (h:EsRel X (p :: es) (y :: l)):EsRel X es l :=
 ⟨by simpa using h.1,fun j p y a b => h.2 (j + 1) p y (by simpa using a) (by simpa using b)⟩
def Found (k:V) (kx:Value) (es:List (V × V)) (l:List MapEntry) (i:Nat):Option (Nat × V) → Option (Nat × Value) → Prop
 | none,r => r = none
 | some (j,v),r => i ≤ j ∧ ∃ q e,es[j - i]? = some (q,v) ∧ l[j - i]? = some e ∧ e.key = kx ∧ r = some (j,e.val)
theorem Found.up {k:V} {kx:Value} {p:V × V} {es:List (V × V)} {y:MapEntry} {l:List MapEntry} {i:Nat} {r:Option (Nat × V)} {z:Option (Nat × Value)} (h:Found k kx es l (i + 1) r z) :
  Found k kx (p :: es) (y :: l) i r z:=by
 cases r with
 | none => exact h
 | some jv =>
   obtain ⟨j,v⟩:=jv
   obtain ⟨h1,q,e,h2,h3,h4,h5⟩:=h
   refine ⟨by omega,q,e,?_,?_,h4,h5⟩
   ·rw [show j - i = (j - (i + 1)) + 1 from by omega];simpa using h2
   ·rw [show j - i = (j - (i + 1)) + 1 from by omega];simpa using h3
theorem asking_does {t:TypeId} {ag:Bool} {ks:List Nat} (hk:KeyT P t ag ks) {X:Cx} {k:V} {kx:Value} (hx:XRel X k kx):∀ (es:List (V × V)) (l:List MapEntry) (i:Nat) (r:Option (Nat × V)),EsRel X es l →
  mfind ag ks k es i = some r → ∃ z,(Instr.findAsking t kx l i).run P w = .ok z w ∧ Found k kx es l i r z
 | [],[],i,r,_,h => by simp [mfind] at h;subst h;exact ⟨none,by simp [Instr.findAsking],rfl⟩
 | [],_ :: _,_,_,hr,_ => by simp [EsRel] at hr
 | _ :: _,[],_,_,hr,_ => by simp [EsRel] at hr
 |(q,v) :: es,y :: l,i,r,hr,h => by
  simp only [mfind] at h
  have h0:=hr.2 0 (q,v) y rfl rfl
  split at h
  ·rename_i hq
   cases h
   obtain ⟨q1,q2⟩:=keq_does (w:=w) hk hx h0 hq
   exact ⟨some (i,y.val),by simp [Instr.findAsking,q1],Nat.le_refl _,q,y,by simp,by simp,(q2 rfl).symm,rfl⟩
  ·rename_i hq
   obtain ⟨q1,_⟩:=keq_does (w:=w) hk hx h0 hq
   obtain ⟨z,h1,h2⟩:=asking_does hk hx es l (i + 1) r hr.tail h
   exact ⟨z,by simp [Instr.findAsking,q1,h1],h2.up⟩
  ·cases h
theorem now_does {t:TypeId} {k0:Nat} {td:TypeDesc} (hk:KeyT P t false [k0]) (htd:P.underlying t = some td) {X:Cx} {k:V} {kx:Value} (hx:XRel X k kx):∀ (es:List (V × V)) (l:List MapEntry) (i:Nat) (r:Option (Nat × V)),EsRel X es l →
  mfind false [k0] k es i = some r → ∃ z,Instr.findNow td kx l i = some z ∧ Found k kx es l i r z
 | [],[],i,r,_,h => by simp [mfind] at h;subst h;exact ⟨none,by simp [Instr.findNow],rfl⟩
 | [],_ :: _,_,_,hr,_ => by simp [EsRel] at hr
 | _ :: _,[],_,_,hr,_ => by simp [EsRel] at hr
 |(q,v) :: es,y :: l,i,r,hr,h => by
  simp only [mfind] at h
  have h0:=hr.2 0 (q,v) y rfl rfl
  have hnow:∀ b,V.keq false [k0] k q = some b → Instr.sameNow td kx y.key = some b ∧ (b = true → kx = y.key):=fun b hb => by
   refine ⟨?_,(keq_does (w:=default) hk hx h0 hb).2⟩
   simp only [V.keq] at hb
   unfold eqCell at hb
   split at hb
   ·rename_i q1 c q2 d
    rcases hk.one with ⟨_,q',hu⟩ | ⟨h',_⟩ | ⟨h',_⟩ <;> first | omega | skip
    rw [htd] at hu
    cases hu
    cases hkk:decide (q1 = q2) with
    | false => simp [hkk] at hb
    | true =>
      have:=of_decide_eq_true hkk
      subst this
      simp at hb
      rw [hx.int_inv,XRel.int_inv h0]
      simp [Instr.sameNow,hb]
   ·rcases hk.one with ⟨h',_⟩ | ⟨_,hu⟩ | ⟨h',_⟩ <;> first | omega | skip
    rw [htd] at hu
    cases hu
    rw [hx.bool_inv,XRel.bool_inv h0]
    simpa [Instr.sameNow] using hb
   ·rcases hk.one with ⟨h',_⟩ | ⟨h',_⟩ | ⟨_,hu⟩ <;> first | omega | skip
    rw [htd] at hu
    cases hu
    obtain ⟨c,rfl,rfl⟩:=hx.str_inv
    obtain ⟨d,hd,hd2⟩:=XRel.str_inv h0
    subst hd2
    rw [hd]
    simp only [Instr.sameNow,Option.some.injEq]
    rw [beq_toListBytes,str_eq]
    simpa using hb
   ·cases hb
  split at h
  ·rename_i hq
   cases h
   obtain ⟨q1,q2⟩:=hnow _ hq
   exact ⟨some (i,y.val),by simp [Instr.findNow,q1],Nat.le_refl _,q,y,by simp,by simp,(q2 rfl).symm,rfl⟩
  ·rename_i hq
   obtain ⟨q1,_⟩:=hnow _ hq
   obtain ⟨z,h1,h2⟩:=now_does hk htd hx es l (i + 1) r hr.tail h
   exact ⟨z,by simp [Instr.findNow,q1,h1],h2.up⟩
  ·cases h
theorem find_does {t:TypeId} {ag:Bool} {ks:List Nat} (hk:KeyT P t ag ks) {X:Cx} {k:V} {kx:Value} (hx:XRel X k kx) {b:Bool} (hkk:V.keq ag ks k k = some b) {es:List (V × V)} {l:List MapEntry} {r:Option (Nat × V)} (hr:EsRel X es l)
  (h:mfind ag ks k es 0 = some r):∃ z,(Instr.findKey t kx l).run P w = .ok z w ∧ Found k kx es l 0 r z:=by
 cases ag with
 | true =>
   have ha:=hk.agg
   unfold aggOf at ha
   rw [run_findKey_eq w (by split at ha <;> simp_all) kx l]
   exact asking_does hk hx es l 0 r hr h
 | false =>
   have:∃ k0,ks = [k0]:=by
    simp only [V.keq] at hkk
    split at hkk
    ·exact ⟨_,rfl⟩
    ·cases hkk
   obtain ⟨k0,rfl⟩:=this
   have:∃ td,P.underlying t = some td:=by
    rcases hk.one with ⟨_,q,hu⟩ | ⟨_,hu⟩ | ⟨_,hu⟩ <;> exact ⟨_,hu⟩
   obtain ⟨td,htd⟩:=this
   obtain ⟨z,h1,h2⟩:=now_does hk htd hx es l 0 r hr h
   exact ⟨z,by simp [Instr.findKey,run_underlying htd,h1],h2⟩
theorem rel_map {X:Cx} {i:Nat} {x:Value} (h:XRel X (.map i) x):x = .map (some (X.g.γ i)) ∧ i < X.N:=by
 cases h with
 | plain h _ => cases h
 | map _ h => exact ⟨rfl,h⟩
theorem XRel.down {h:Array Obj} {g:Gh} {N:Nat} {T:List (Nat × Nat)} {v:V} {x:Value} (hx:XRel ⟨h,g,N,[]⟩ v x) (hm:∀ d,v.men d = false):XRel ⟨h,g,N,T⟩ v x :=
 XRel.mono (X:=⟨h,g,N,[]⟩) (X':=⟨h,g,N,T⟩) ⟨Nat.le_refl _,fun _ _ _ _ h => h,fun _ _ => Nat.le_refl _,Nat.le_refl _,fun _ _ => rfl⟩ hx fun d => .inr (hm d)
theorem keq_men {ag:Bool} {ks:List Nat} {u:V} {b:Bool} (h:V.keq ag ks u u = some b) (d:Nat):u.men d = false:=by
 have cell:∀ {k:Nat} {u v:V} {b:Bool},eqCell k u v = some b → u.men0 d = false ∧ u.men d = false:=fun {k u v b} h => by
  unfold eqCell at h
  split at h <;> first | exact ⟨rfl,rfl⟩ | cases h
 unfold V.keq at h
 split at h
 ·split at h
  ·rename_i ds
   cases hl:(ds.length == ks.length) with
   | false => simp [hl] at h
   | true =>
     simp only [hl,Bool.and_self,cond_true] at h
     simp only [beq_iff_eq] at hl
     simp only [V.men,V.men1,List.any_eq_false]
     intro v hv
     obtain ⟨j,hj⟩:=List.mem_iff_getElem?.1 hv
     have go:∀ (ks:List Nat) (cs:List V) (b:Bool) (j:Nat),cs.length = ks.length → eqCells ks cs cs = some b → cs[j]? = some v → v.men0 d = false:=by
      intro ks
      induction ks with
      | nil => intro cs b j h1 _ h3;rw [List.length_eq_zero_iff.1 h1] at h3;simp at h3
      | cons k ks ih =>
        intro cs b j h1 h2 h3
        cases cs with
        | nil => simp at h1
        | cons c cs =>
          simp only [eqCells] at h2
          split at h2
          ·rename_i p q hp hq
           cases j with
           | zero => simp at h3;subst h3;exact (cell hp).1
           | succ j => exact ih cs q j (by simpa using h1) hq (by simpa using h3)
          ·cases h2
     simp [go ks ds b j hl h hj]
  ·cases h
 ·split at h
  ·exact (cell h).2
  ·cases h
theorem glob_map (hR:R E g S a w) {i:Nat} {es:List (V × V)} (h:S.glob[i]? = some (.map es)):g.ow (g.γ i) = .glob i ∧ g.m (g.γ i) = 0 ∧ ∃ c k,w.heap[g.γ i]? = some (.map c k) ∧ es.length = c.size ∧
  EsRel (S.cx g w) es c.toList ∧ ∀ (j:Nat) (p:V × V) (y:MapEntry),es[j]? = some p → c[j]? = some y → (∀ d,p.1.men d = false) ∧ (∀ d,p.2.men1 d = false) ∧ XRel ⟨w.heap,g,S.glob.length,[]⟩ p.1 y.key ∧ XRel ⟨w.heap,g,S.glob.length,[]⟩ p.2 y.val:=by
 obtain ⟨how,hm,c,k,hh,hl,hj⟩:=hR.glob i _ h
 refine ⟨how,hm,c,k,hh,hl,⟨by simpa using hl,fun j p y a b => ?_⟩,hj⟩
 obtain ⟨q1,_,q3,_⟩:=hj j p y a (by simpa using b)
 exact q3.down q1
def okZ (P:Program) (t:TypeId) (zero:V):Bool :=
 match (P.info? t).bind (·.zero) with
 | some z => okVal z zero
 | none => false
theorem do_mapget {o:Oper} {t kt et:TypeId} {ag ok:Bool} {ks:List Nat} {zero:V} {p q:Operand} {x k:Opd} {C:CallF} (ho:o.op = .lookup t p q ok) (ht:P.underlying t = some (.map kt et)) (hk:KeyT P kt ag ks) (hz:okZ P et zero = true)
  (hp:okOpd p x = true) (hq:okOpd q k = true) (hR:R E g S a w) (hd:∀ d,o.dst = some d → d < E.nt) (hrun:VO.run C o.dst S (.mapget ag ks zero ok x k) = some S'):Does P E o S S' a w:=by
 simp only [VO.run] at hrun
 split at hrun
 ·rename_i i kv hx hkv
  split at hrun
  ·rename_i es b hes hb
   obtain ⟨ex,hi⟩:=rel_map (ev_rel hR hp hx)
   have hkr:=ev_rel hR hq hkv
   obtain ⟨how,hm,c,ck,hh,hl,hes',hj⟩:=glob_map hR hes
   have hchk:=keq_chk (w:=w) hk hkr hb c.isEmpty
   have hget:=MapKept.run_getObj_map (P:=P) hh
   have hge:(getObj ((S.cx g w).g.γ i)).run P w = .ok (.map c ck) w:=hget
   split at hrun
   ·rename_i j v hf
    cases hrun
    obtain ⟨z,hz1,_,q,e,hq1,hq2,hq3,rfl⟩:=find_does (w:=w) hk hkr hb hes' hf
    have hjj:=hj j (q,v) e (by simpa using hq1) (by simpa using hq2)
    have hv:XRel (S.cx g w) v e.val:=hjj.2.2.2.down fun d => men_of_men1 (hjj.2.1 d)
    refine Does.put hR hd (x:=if ok then .tuple #[e.val,.bool true] else e.val) ?_ ?_
    ·simp only [execOp,ho,ex]
     simp [Instr.lookup,run_underlying' ht,hge,hchk,hz1]
    ·cases ok
     ·exact hv
     ·refine .tuple _ _ (by simp) fun m u y hu hy => ?_
      match m with
      | 0 => simp at hu hy;subst hu;subst hy;exact hv
      | 1 => simp at hu hy;subst hu;subst hy;exact XRel.bool _
      | m + 2 => simp at hu
   ·rename_i hf
    cases hrun
    obtain ⟨z,hz1,rfl⟩:=find_does (w:=w) hk hkr hb hes' hf
    unfold okZ at hz
    split at hz
    ·rename_i zv hzv
     cases hin:P.info? et with
     | none => simp [hin] at hzv
     | some inf =>
       simp only [hin,Option.bind_some] at hzv
       have hv:XRel (S.cx g w) zero zv:=okVal_rel hz
       refine Does.put hR hd (x:=if ok then .tuple #[zv,.bool false] else zv) ?_ ?_
       ·simp only [execOp,ho,ex]
        simp [Instr.lookup,run_underlying' ht,hge,hchk,hz1,zeroValue,typeInfo,hin,hzv]
       ·cases ok
        ·exact hv
        ·refine .tuple _ _ (by simp) fun m u y hu hy => ?_
         match m with
         | 0 => simp at hu hy;subst hu;subst hy;exact hv
         | 1 => simp at hu hy;subst hu;subst hy;exact XRel.bool _
         | m + 2 => simp at hu
    ·cases hz
   ·cases hrun
  ·cases hrun
 ·cases hrun
theorem touch_map {b:Nat} {o':Obj} (hm:g.m b = 0) (hfresh:E.w0.heap.size ≤ b ∨ ∃ i,i < E.N0 ∧ E.g0.γ i = b) (hcold:∀ p q,g.ow b ≠ .cell p q) :
  Touch E g S w g S.toks S.glob.length { w with heap:=w.heap.setIfInBounds b o' } b none none where
 os:=rfl
 tape:=rfl
 output:=rfl
 size:=by simp
 heap:=fun i hi _ => by simp [Ne.symm hi]
 m:=fun _ _ => rfl
 ow:=fun _ _ => rfl
 κ:=fun _ _ => rfl
 cp:=fun _ _ => rfl
 τ:=fun _ _ => rfl
 T:=fun _ _ => rfl
 γ:=fun _ _ => rfl
 nle:=Nat.le_refl _
 γnew:=fun i a b => absurd a (by omega)
 fresh:=hfresh.imp (fun z => z) .inl
 cold:=fun p q _ e => absurd e (hcold p q)
 imm:=fun o y ho _ => absurd ho (by omega)
 mle:=fun _ => Nat.le_refl _
theorem R.setMap (hR:R E g S a w) {i:Nat} {es es':List (V × V)} (hes:S.glob[i]? = some (.map es)) {c':Array MapEntry} {ck':Nat} (hl:es'.length = c'.size)
  (hj:∀ (j:Nat) (p:V × V) (y:MapEntry),es'[j]? = some p → c'[j]? = some y → (∀ d,p.1.men d = false) ∧ (∀ d,p.2.men1 d = false) ∧ XRel ⟨w.heap,g,S.glob.length,[]⟩ p.1 y.key ∧ XRel ⟨w.heap,g,S.glob.length,[]⟩ p.2 y.val) :
  R E g { S with glob:=S.glob.set i (.map es') } a { w with heap:=w.heap.setIfInBounds (g.γ i) (.map c' ck') }:=by
 obtain ⟨how,hm,c,ck,hh,_,_,_⟩:=glob_map hR hes
 have hi:=lt_of_get? hes
 have hfresh:E.w0.heap.size ≤ g.γ i ∨ ∃ k,k < E.N0 ∧ E.g0.γ k = g.γ i:=by
  by_cases h:i < E.N0
  ·exact .inr ⟨i,h,(hR.same.γ i h).symm⟩
  ·exact .inl (hR.same.γnew i (by omega) hi)
 have hb:g.γ i < w.heap.size:=by
  rcases Nat.lt_or_ge (g.γ i) w.heap.size with h | h
  ·exact h
  ·simp [Array.getElem?_eq_none h] at hh
 have hnew:({ w with heap:=w.heap.setIfInBounds (g.γ i) (.map c' ck') }:World).heap[g.γ i]? = some (.map c' ck'):=by simp [hb]
 have tt:=touch_map (S:=S) (w:=w) (o':=.map c' ck') hm hfresh (fun _ _ e => by rw [how] at e;cases e)
 have hk:∀ k,Keeps (S.cx g w) ⟨w.heap.setIfInBounds (g.γ i) (.map c' ck'),g,S.glob.length,S.toks⟩ k:=fun k => tt.keeps hR (fun e => by cases e) (fun e => by cases e) (fun _ e => by rw [how] at e;cases e)
 have le0:Le ⟨w.heap,g,S.glob.length,[]⟩ ⟨w.heap.setIfInBounds (g.γ i) (.map c' ck'),g,S.glob.length,[]⟩:=⟨tt.le.size,tt.le.cells,tt.le.m,tt.le.nle,tt.le.γ⟩
 refine R.touched tt hR rfl (by simp) (fun i => .inl (hk i)) (fun s v hs => .inl hs) (fun id cs' hi => .inl ⟨hi,(fun e => by cases e),fun _ e => by rw [how] at e;cases e⟩)
  (fun f k b hf hb => .inl ⟨(fun e => by cases e),fun _ e => by rw [how] at e;cases e⟩) (fun k o hko => ?_)
 simp only [List.getElem?_set] at hko
 split at hko
 ·rename_i hik
  subst hik
  first | (rw [if_pos hi] at hko;cases hko) | cases hko
  refine .inr ⟨how,⟨hm,c',ck',hnew,hl,fun j p y hp hy => ?_⟩,trivial⟩
  obtain ⟨q1,q2,q3,q4⟩:=hj j p y hp hy
  exact ⟨q1,q2,q3.mono le0 fun d => .inr (q1 d),q4.mono le0 fun d => .inr (men_of_men1 (q2 d))⟩
 ·rename_i hik
  exact .inl ⟨hko,fun _ => ⟨fun e => (by rw [how] at e;cases e;exact hik rfl),fun _ e => (by rw [how] at e;cases e)⟩⟩
theorem garg_men {X:Cx} {sh:Sh} {v u:V} {y:Value} (h:garg sh v = some u) (hr:XRel X v y) (d:Nat):u.men1 d = false:=by
 unfold garg at h
 split at h
 ·split at h
  ·rename_i cs us hg
   cases h
   obtain ⟨xs,e,hl,hx⟩:=rel_agg hr
   obtain ⟨l1,l2⟩:=gels_len hg
   simp only [V.men1,List.any_eq_false]
   intro u hu
   obtain ⟨j,hj⟩:=List.mem_iff_getElem?.1 hu
   obtain ⟨v0,s,hv0,hgs⟩:=gels_get hg j u hj
   have hlt:=lt_of_get? hv0
   obtain ⟨q1,q2,_,_⟩:=gel_rel hgs (hx j v0 xs[j] hv0 (by simp [hl] at hlt;simp [hlt]))
   have:=q2 d
   cases u <;> simp_all [V.men,V.men1,V.men0,V.isCell]
  ·cases h
 ·split at h
  ·obtain ⟨q1,q2,_,_⟩:=gel_rel h hr
   have:=q2 d
   cases u <;> simp_all [V.men,V.isCell]
  ·cases h
theorem do_mapset {o:Oper} {t kt et:TypeId} {ag:Bool} {ks:List Nat} {sh:Sh} {p q r:Operand} {x k y:Opd} {C:CallF} (ho:o.op = .mapUpdate t p q r) (hdst:o.dst = none) (ht:P.underlying t = some (.map kt et)) (hk:KeyT P kt ag ks)
  (hp:okOpd p x = true) (hq:okOpd q k = true) (hr:okOpd r y = true) (hR:R E g S a w) (hrun:VO.run C o.dst S (.mapset ag ks sh x k y) = some S'):Does P E o S S' a w:=by
 simp only [VO.run] at hrun
 split at hrun
 ·rename_i i kv v hx hkv hy
  split at hrun
  ·rename_i es b u hes hb hu
   obtain ⟨ex,hi⟩:=rel_map (ev_rel hR hp hx)
   have hkr:=ev_rel hR hq hkv
   have hyr:=ev_rel hR hr hy
   have hur:=garg_rel hu hyr
   have hum:=garg_men hu hyr
   have hkm:=keq_men hb
   have hk0:XRel ⟨w.heap,g,S.glob.length,[]⟩ kv (a.eval q):=XRel.mono (X:=S.cx g w) (X':=⟨w.heap,g,S.glob.length,[]⟩) ⟨Nat.le_refl _,fun _ _ _ _ h => h,fun _ _ => Nat.le_refl _,Nat.le_refl _,fun _ _ => rfl⟩ hkr fun d => .inr (hkm d)
   obtain ⟨how,hm,c,ck,hh,hl,hes',hj⟩:=glob_map hR hes
   have hchk:=keq_chk (w:=w) hk hkr hb false
   have hget:=MapKept.run_getObj_map (P:=P) hh
   have hge:(getObj ((S.cx g w).g.γ i)).run P w = .ok (.map c ck) w:=hget
   split at hrun
   ·rename_i j v hf
    cases hrun
    obtain ⟨z,hz1,_,q0,e,hq1,hq2,hq3,rfl⟩:=find_does (w:=w) hk hkr hb hes' hf
    have hstay:=keq_stays (P:=P) (w:=w) hkr hb
    let c':=c.modify j fun e => { e with key:=a.eval q,val:=a.eval r }
    have hR':=hR.setMap (c':=c') (ck':=ck) (es':=es.set j (kv,u)) hes (by simp [c',hl]) (fun n p y hn hy => by
     simp only [List.getElem?_set] at hn
     split at hn
     ·rename_i hjn
      subst hjn
      split at hn
      ·cases hn
       have hjl:j < c.size:=by omega
       simp only [c',Array.getElem?_modify,if_true] at hy
       simp [hjl] at hy
       subst hy
       exact ⟨hkm,hum,hk0,hur⟩
      ·cases hn
     ·rename_i hjn
      simp only [c',Array.getElem?_modify] at hy
      rw [if_neg hjn] at hy
      exact hj n p y hn hy)
    refine Does.skip (g':=g) ?_ hdst hR'
    have hset:=MapKept.run_setObj_map (P:=P) (.map c' ck) hh
    have hse:(setObj ((S.cx g w).g.γ i) (.map c' ck)).run P w = .ok () { w with heap:=w.heap.setIfInBounds (g.γ i) (.map c' ck) }:=hset
    have he:((c[j]?).map (·.key)).getD (a.eval q) = a.eval q:=by
     have:c[j]? = some e:=by simpa using hq2
     rw [this];exact hq3
    simp only [execOp,ho,ex]
    simp [Instr.mapUpdate,run_underlying' ht,hge,hchk,hz1,he,hstay,c',hse]
   ·rename_i hf
    cases hrun
    obtain ⟨z,hz1,rfl⟩:=find_does (w:=w) hk hkr hb hes' hf
    let c':=c.push { key:=a.eval q,val:=a.eval r,born:=ck }
    have hR':=hR.setMap (c':=c') (ck':=ck + 1) (es':=es ++ [(kv,u)]) hes (by simp [c',hl]) (fun n p y hn hy => by
     simp only [c',Array.getElem?_push] at hy
     by_cases hnn:n = c.size
     ·rw [if_pos hnn] at hy
      rw [List.getElem?_append_right (by omega),hnn,hl] at hn
      simp at hn
      cases hy
      subst hn
      exact ⟨hkm,hum,hk0,hur⟩
     ·rw [if_neg hnn] at hy
      have hlt:=(Array.getElem?_eq_some_iff.1 hy).1
      rw [List.getElem?_append_left (by omega)] at hn
      exact hj n p y hn hy)
    refine Does.skip (g':=g) ?_ hdst hR'
    have hset:=MapKept.run_setObj_map (P:=P) (.map c' (ck + 1)) hh
    have hse:(setObj ((S.cx g w).g.γ i) (.map c' (ck + 1))).run P w = .ok () { w with heap:=w.heap.setIfInBounds (g.γ i) (.map c' (ck + 1)) }:=hset
    simp only [execOp,ho,ex]
    simp [Instr.mapUpdate,run_underlying' ht,hge,hchk,hz1,c',hse]
   ·cases hrun
  ·cases hrun
 ·cases hrun
end
end Go.Vm

/- The value machine, 9b: local objects that grow. -/
import Derived.Test.YtfjdfnegookkcaaGreatVm9
namespace Go.Vm
set_option linter.all false
section
variable {P:Program} {E:Entry} {g g':Gh} {S S':St} {a:Act} {w w':World}
theorem look_filt {α:Type} {s d:Nat}:∀ {l:List (Nat × α)},look s (l.filter fun p => !(p.1 == d)) = if s = d then none else look s l
 | [] => by simp [look]
 |(k,v) :: l => by
  have ih:=look_filt (s:=s) (d:=d) (l:=l)
  cases h:k == d with
  | true =>
    have:=eq_of_beq h
    subst this
    simp only [List.filter,h,Bool.not_true]
    rw [ih,look_cons]
    by_cases hs:s = k
    ·simp [hs]
    ·rw [if_neg hs,if_neg hs,if_neg (fun e => hs e.symm)]
  | false =>
    simp only [List.filter,h,Bool.not_false]
    rw [look_cons,look_cons,ih]
    by_cases hk:k = s
    ·subst hk
     have:k ≠ d:=by simpa using h
     simp [this]
    ·rw [if_neg hk,if_neg hk]
theorem plain_men {v:V} {d:Nat} (h:v.plain = true):v.men0 d = false:=by
 cases v <;> simp_all [V.plain,V.men0]
 rename_i t _ _
 cases t <;> simp_all [V.plain,V.men0]
theorem R.drop (hR:R E g S a w) (d:Nat):R E g { S with objs:=S.objs.filter fun p => !(p.1 == d) } a w :=
 ⟨hR.env,fun id cs ho => by
  have ho:look id (S.objs.filter fun p => !(p.1 == d)) = some cs:=ho
  rw [look_filt] at ho
  split at ho
  ·cases ho
  ·exact hR.objs id cs ho,hR.toks,hR.glob,hR.defers,hR.tsz,hR.same⟩
theorem R.moved (hR:R E g S a w) {i b:Nat} {cs:List V} (hn:S.noMen b) (ho:look i S.objs = some cs) :
  ∃ g',R E g' { S with objs:=(b,cs) :: S.objs.filter fun p => !(p.1 == i) } a w ∧ (∀ s n x,XRel (S.cx g w) (.lref i s n) x → XRel (S.cx g' w) (.lref b s n) x) ∧
    ∀ v x,XRel (S.cx g w) v x → v.men b = false → XRel (S.cx g' w) v x:=by
 obtain ⟨how,hbase,hm,c,e,hh,hcp,hj⟩:=hR.objs i cs ho
 let g':Gh:={ g with κ:=upd g.κ b (g.κ i),cp:=upd g.cp b (g.cp i),ow:=upd g.ow (g.κ i) (.obj b) }
 have hlt:g.κ i < w.heap.size:=by
  rcases Nat.lt_or_ge (g.κ i) w.heap.size with h | h
  ·exact h
  ·simp [Array.getElem?_eq_none h] at hh
 have hib:i ≠ b:=fun h => by subst h;rw [hn.obj] at ho;cases ho
 have t:Touch E g S w g' S.toks S.glob.length w (g.κ i) (some b) none :=
  {os:=rfl,tape:=rfl,output:=rfl,size:=Nat.le_refl _,heap:=fun _ _ _ => rfl,m:=fun _ _ => rfl,ow:=fun k hk => upd_ne _ _ hk,κ:=fun k hk => upd_ne _ _ (fun e => hk (by rw [e])),
   cp:=fun k hk => upd_ne _ _ (fun e => hk (by rw [e])),τ:=fun _ _ => rfl,T:=fun _ _ => rfl,
   γ:=fun _ _ => rfl,nle:=Nat.le_refl _,γnew:=fun k h1 h2 => absurd h1 (by omega),fresh:=.inl hbase,cold:=fun p q _ e => by (have e:upd g.ow (g.κ i) (.obj b) (g.κ i) = .cell p q:=e);rw [upd_same] at e;exact nomatch e
   imm:=fun _ _ _ h => h,mle:=fun _ => Nat.le_refl _ }
 have hk:∀ k,Keeps (S.cx g w) ⟨w.heap,g',S.glob.length,S.toks⟩ k ∨ k = b:=fun k => by
  by_cases h:k = b
  ·exact .inr h
  ·exact .inl (t.keeps hR (fun e => h (by cases e;rfl)) (fun e => by cases e) (fun _ e => by rw [how] at e;cases e))
 refine ⟨g',R.touched t hR rfl rfl (fun k => (hk k).imp (fun z => z) fun e => by rw [e];exact hn) (fun s v hs => .inl hs) (fun k cs' hi => ?_) (fun f k q hf hq => .inl ⟨(fun e => by cases e),fun _ e => by rw [how] at e;cases e⟩)
  (fun k o hi => .inl ⟨hi,fun _ => ⟨fun e => (by rw [how] at e;cases e),fun _ e => (by rw [how] at e;cases e)⟩⟩),fun s n x hx => ?_,fun v x hx hv => hx.mono t.le fun k => (hk k).imp (fun z => z) fun e => by rw [e];exact hv⟩
 ·have hi:look k ((b,cs) :: S.objs.filter fun p => !(p.1 == i)) = some cs':=hi
  rw [look_cons] at hi
  by_cases hbk:b = k
  ·subst hbk
   rw [if_pos rfl] at hi
   cases hi
   refine .inr ⟨?_,?_,?_,c,e,?_,?_,fun j v hv => ?_⟩
   ·show upd g.ow _ _ (upd g.κ _ _ _) = _;rw [upd_same,upd_same]
   ·show _ ≤ upd g.κ _ _ _;rw [upd_same];exact hbase
   ·show g.m (upd g.κ _ _ _) = _;rw [upd_same];exact hm
   ·show w.heap[upd g.κ _ _ _]? = _;rw [upd_same];exact hh
   ·show upd g.cp _ _ _ ≤ _;rw [upd_same];exact hcp
   ·obtain ⟨q1,y,q2,q3⟩:=hj j v hv
    exact ⟨q1,y,q2,q3.mono t.le fun k => (hk k).imp (fun z => z) fun e => by rw [e];exact men_of_men0 (hn.objs i cs ho v (List.mem_of_getElem? hv))⟩
  ·rw [if_neg hbk,look_filt] at hi
   split at hi
   ·cases hi
   ·rename_i hki
    exact .inl ⟨hi,(fun e => hbk (by cases e;rfl)),fun _ e => hki (by rw [how] at e;cases e;rfl)⟩
 ·cases hx with
  | plain h _ => cases h
  | lref _ _ _ cap h hc =>
    have e1:(S.cx g w).g.κ i = (S.cx g' w).g.κ b:=(upd_same g.κ b (g.κ i)).symm
    rw [e1]
    exact .lref b s n cap h (hc.trans (upd_same g.cp b (g.cp i)).symm)
theorem rows_flat {h:Array Obj} {m:Nat → Nat} {n:Nat}:∀ {ys:List (List V)} {l:List Value},RowsRel h m n ys l → ys.flatten.length = l.length ∧ ∀ (j:Nat) (v:V),ys.flatten[j]? = some v → v.plain = true ∧ ∃ y,l[j]? = some y ∧ VRel h m v y
 | [],l,hr => by
   have:=hr.len
   simp at this
   subst this
   simp
 | r :: ys,l,hr => by
   have hl:=hr.len
   simp only [List.length_cons,Nat.succ_mul] at hl
   have hrl:=hr.row 0 r rfl
   have ht:RowsRel h m n ys (l.drop n):=⟨by simp [hl],fun i row hi => hr.row (i + 1) row (by simpa using hi),fun i row j v hi hj => by
    obtain ⟨p,y,q,s⟩:=hr.cell (i + 1) row j v (by simpa using hi) hj
    refine ⟨p,y,?_,s⟩
    rw [List.getElem?_drop,← q,Nat.succ_mul]
    congr 1;omega⟩
   obtain ⟨h1,h2⟩:=rows_flat ht
   refine ⟨by simp only [List.flatten_cons,List.length_append,h1,List.length_drop,hrl];omega,fun j v hv => ?_⟩
   rw [List.flatten_cons,List.getElem?_append] at hv
   split at hv
   ·obtain ⟨p,y,q,s⟩:=hr.cell 0 r j v rfl hv
    exact ⟨p,y,by simpa using q,s⟩
   ·rename_i hlt
    obtain ⟨p,y,q,s⟩:=h2 _ v hv
    refine ⟨p,y,?_,s⟩
    rw [List.getElem?_drop,hrl] at q
    rw [← q]
    congr 1;omega
theorem R.grown (hR:R E g S a w) {i:Nat} {cs ws:List V} {l:List Value} {c:Array Value} {e:TypeId} (ho:look i S.objs = some cs) (hh:w.heap[g.κ i]? = some (.cells c e (0,0))) (hfit:cs.length + l.length ≤ c.size)
  (hw:∀ (j:Nat) (v:V),ws[j]? = some v → v.plain = true ∧ ∃ y,l[j]? = some y ∧ VRel w.heap g.m v y) (hlen:ws.length = l.length) :
  R E g { S with objs:=(i,cs ++ ws) :: S.objs } a (w.setRow (g.κ i) (c.toList.take cs.length ++ l ++ c.toList.drop (cs.length + l.length)).toArray) ∧
    ∀ v x,XRel (S.cx g w) v x → XRel (S.cx g (w.setRow (g.κ i) (c.toList.take cs.length ++ l ++ c.toList.drop (cs.length + l.length)).toArray)) v x:=by
 obtain ⟨how,hbase,hm,c0,e0,hh0,hcp,hj⟩:=hR.objs i cs ho
 rw [hh] at hh0
 cases hh0
 have hnew:=setRow_heap w _ c (c.toList.take cs.length ++ l ++ c.toList.drop (cs.length + l.length)).toArray e _ hh
 have tt:=touch_row (c':=(c.toList.take cs.length ++ l ++ c.toList.drop (cs.length + l.length)).toArray) (S:=S) (w:=w) hm (.inl hbase) (fun _ _ e => by rw [how] at e;cases e)
 have hk:∀ k,Keeps (S.cx g w) ⟨(w.setRow (g.κ i) (c.toList.take cs.length ++ l ++ c.toList.drop (cs.length + l.length)).toArray).heap,g,S.glob.length,S.toks⟩ k:=fun k => tt.keeps hR (fun e => by cases e) (fun e => by cases e) (fun _ e => by rw [how] at e;cases e)
 refine ⟨R.touched tt hR rfl rfl (fun k => .inl (hk k)) (fun s v hs => .inl hs) (fun k cs' hi => ?_) (fun f k b hf hb => .inl ⟨(fun e => by cases e),fun _ e => by rw [how] at e;cases e⟩)
  (fun k o hi => .inl ⟨hi,fun _ => ⟨fun e => (by rw [how] at e;cases e),fun _ e => (by rw [how] at e;cases e)⟩⟩),fun v x hx => hx.mono tt.le fun k => .inl (hk k)⟩
 have hi:look k ((i,cs ++ ws) :: S.objs) = some cs':=hi
 rw [look_cons] at hi
 by_cases hik:i = k
 ·subst hik
  rw [if_pos rfl] at hi
  cases hi
  refine .inr ⟨how,hbase,hm,_,e,hnew,(by rw [splice_size (by omega)];exact hcp),fun j u hu => ?_⟩
  rw [splice_get (by omega) j]
  rw [List.getElem?_append] at hu
  split at hu
  ·rename_i hlt
   rw [if_neg (by omega)]
   obtain ⟨q1,z,q2,q3⟩:=hj j u hu
   exact ⟨q1,z,q2,q3.mono tt.le (fun i => .inl (hk i))⟩
  ·rename_i hlt
   have:=lt_of_get? hu
   rw [if_pos (by omega)]
   obtain ⟨q1,y,q2,q3⟩:=hw _ u hu
   refine ⟨?_,y,q2,?_⟩
   ·cases u <;> simp_all [V.plain,V.isCell]
   ·have hx:XRel (S.cx g w) u y:=.plain q3 (fun f n es he => by subst he;simp [V.plain] at q1)
    exact hx.mono tt.le (fun i => .inl (hk i))
 ·rw [if_neg hik] at hi
  exact .inl ⟨hi,(fun e => by cases e),fun _ e => hik (by rw [how] at e;cases e;rfl)⟩
theorem do_appo {o:Oper} {t e:TypeId} {nw src:Nat} {sh:Sh} {p q:Operand} {x y:Opd} {C:CallF} (ho:o.op = .call ⟨.builtin .append,#[p,q],#[t,t]⟩) (ht:P.underlying t = some (.slice e)) (he:ElemOK P e sh.length)
  (hp:okOpd p x = true) (hq:okOpd q y = true) (hn:S.noMen nw) (hR:R E g S a w) (hd:∀ d,o.dst = some d → d < E.nt)
  (hrun:VO.run C o.dst S (.appo nw src sh x y) = some S'):Does P E o S S' a w:=by
 obtain ⟨⟨i,z,hi,hz,hsz,hzs,hby⟩,hpos⟩:=he
 have hexec:∀ w,(execOp a.eval o).run P w = ((Builtin.append_ #[t,t] o.type #[a.eval p,a.eval q]).run P w).andThen fun v w => .ok (.value v) w:=fun w => by
  simp [execOp,ho,resolve,invoke,builtin]
 have vplain:∀ {v:V} {y:Value},v.plain = true → VRel w.heap g.m v y → v.isCell = true ∧ (∀ d,v.men d = false) ∧ XRel (S.cx g w) v y:=fun {v y} h1 h2 => by
  refine ⟨?_,fun d => men_of_men0 ?_,.plain h2 (fun f n es he => by subst he;simp [V.plain] at h1)⟩
  ·cases v <;> simp_all [V.plain,V.isCell]
  ·cases v <;> simp_all [V.plain,V.men0]
   rename_i t _ _
   cases t <;> simp_all [V.plain,V.men0]
 have start:∀ {b u:V},Zed (a.eval p) → XRel (S.cx g w) u (a.eval p) → S.ev y = some b → (match S.rows sh b with
   | some ys => bif ys.isEmpty then some (S.put o.dst u) else
     bif Nat.ble ys.length lim then some ({ S with objs:=(nw,ys.flatten) :: S.objs }.put o.dst (.lref nw sh.length ys.length)) else none
   | none => none) = some S' → Does P E o S S' a w:=fun {b u} h0 hu hy hrun => by
  split at hrun
  ·rename_i ys hrows
   have hys:=rows_rel hR (ev_rel hR hq hy) hrows
   cases hemp:ys.isEmpty with
   | true =>
     simp only [hemp,cond_true] at hrun
     cases hrun
     have:ys = []:=List.isEmpty_iff.1 hemp
     subst this
     obtain ⟨base,cap,e1,_⟩:=sl_slice hys
     refine Does.value (x:=a.eval p) (w':=w) (g':=g) ?_ (hR.put hd hu)
     rw [hexec,e1]
     simp only [List.length_nil]
     rcases h0 with h0 | ⟨a0,h0⟩
     ·rw [h0,run_append_zero ht hi none 0 0 (Nat.le_refl _) base cap]
      rfl
     ·rw [h0,run_append_zero ht hi (some a0) 0 0 (Nat.le_refl _) base cap]
      rfl
   | false =>
     simp only [hemp,cond_false] at hrun
     have hne:ys ≠ []:=fun e => by simp [e] at hemp
     cases hle:Nat.ble ys.length lim with
     | false => simp [hle] at hrun
     | true =>
       simp only [hle,cond_true] at hrun
       cases hrun
       have hle:=Nat.le_of_ble_eq_true hle
       rcases hys with ⟨rfl,_⟩ | ⟨b,off,cap,l,hy,hcap,hc,hl⟩
       ·exact absurd rfl hne
       ·have hlen:0 < ys.length:=List.length_pos_iff.2 hne
        have hll:=hl.len
        have hr:=run_append_zed (P:=P) (ty:=o.type) (w:=w) ht hi hz h0 (b:=⟨b,off,none⟩) (n:=ys.length) (cap:=cap) (l:=l) (by rw [hsz];exact hll) (fun j v hj => by rw [addr_add,cell?_eq];exact hc j v hj) hlen (by unfold lim at hle;omega) (Nat.le_trans (Nat.mul_le_mul hle hby) (by decide))
        have hcsz:l.length + (grownCap w ys.length 0 e - ys.length) * z.cells.size = grownCap w ys.length 0 e * sh.length:=by
         rw [hll,hzs,← Nat.add_mul];congr 1;have:=@grownCap_le w ys.length 0 e;omega
        obtain ⟨f1,f2⟩:=rows_flat hl
        obtain ⟨g',r1,r2,r3⟩:=hR.newObj (w':=w.drew.alloc (.cells (l.toArray ++ Builtin.zeroCells z.cells (grownCap w ys.length 0 e - ys.length)) e)) hn rfl rfl rfl rfl (cs:=ys.flatten)
         (cpn:=grownCap w ys.length 0 e * sh.length) (hcpn:=by simp only [Array.size_append,zeroCells_size,List.size_toArray];omega) (fun j v hj => by
          obtain ⟨q1,y,q2,q3⟩:=f2 j v hj
          obtain ⟨p1,p2,p3⟩:=vplain q1 q3
          exact ⟨p1,p2 _,y,by rw [Array.getElem?_append_left (by have:=lt_of_get? q2;simpa using this)];simpa using q2,p3⟩)
        refine Does.value (x:=.slice (some ⟨w.heap.size,0,none⟩) ys.length (grownCap w ys.length 0 e)) (g':=g') (w':=w.drew.alloc (.cells (l.toArray ++ Builtin.zeroCells z.cells (grownCap w ys.length 0 e - ys.length)) e)) ?_ (r1.put hd ?_)
        ·rw [hexec,hy,hr];rfl
        ·rw [← r2];exact .lref nw _ _ _ grownCap_le r3.symm
  ·cases hrun
 simp only [VO.run] at hrun
 split at hrun
 ·rename_i v hx hy
  exact start (.inl (rel_nils (ev_rel hR hp hx))) (ev_rel hR hp hx) hy hrun
 ·rename_i n v hx hy
  exact start (rel_zed (ev_rel hR hp hx)) (ev_rel hR hp hx) hy hrun
 ·rename_i id s ln v hx hy
  split at hrun
  ·rename_i ys cs hrows hob
   cases hc:((id == src) && (s == sh.length) && (cs.length == ln * s) && Nat.ble (ln + ys.length) lim) with
   | false => simp [hc] at hrun
   | true =>
     simp only [hc,cond_true] at hrun
     cases hrun
     simp only [Bool.and_eq_true,beq_iff_eq] at hc
     obtain ⟨⟨⟨rfl,rfl⟩,hcl⟩,hle⟩:=hc
     have hle:=Nat.le_of_ble_eq_true hle
     have hys:=rows_rel hR (ev_rel hR hq hy) hrows
     have hxr:=ev_rel hR hp hx
     obtain ⟨how,hbase,hm,c,et,hh,hcp,hj⟩:=hR.objs id cs hob
     obtain ⟨cap,hex,hcap,hccp⟩:∃ cap,a.eval p = .slice (some ⟨g.κ id,0,none⟩) ln cap ∧ ln ≤ cap ∧ cap * sh.length = g.cp id:=by
      generalize a.eval p = xx at hxr
      cases hxr with
      | plain h _ => cases h
      | lref _ _ _ cap h hc => exact ⟨cap,rfl,h,hc⟩
     have hc:cs.length ≤ c.size:=by
      rcases Nat.lt_or_ge c.size cs.length with h | h
      ·obtain ⟨_,y,hy,_⟩:=hj c.size cs[c.size] (List.getElem?_eq_getElem h)
       simp at hy
      ·exact h
     have hfit:cap * sh.length ≤ c.size:=by omega
     by_cases hne:ys = []
     ·subst hne
      obtain ⟨base,cap',e1,_⟩:=sl_slice hys
      obtain ⟨g',r1,r2,_⟩:=hR.moved hn hob
      simp only [List.flatten_nil,List.append_nil,List.length_nil,Nat.add_zero]
      refine Does.value (x:=a.eval p) (g':=g') (w':=w) ?_ (r1.put hd (r2 _ _ _ hxr))
      rw [hexec,e1,hex]
      simp only [List.length_nil]
      rw [run_append_zero ht hi _ ln cap hcap base cap']
      rfl
     ·rcases hys with ⟨rfl,_⟩ | ⟨b',off',cap',l,hy',hcap',hc',hl⟩
      ·exact absurd rfl hne
      ·have hlen:0 < ys.length:=List.length_pos_iff.2 hne
       have hll:=hl.len
       obtain ⟨f1,f2⟩:=rows_flat hl
       have hadd:∀ (j:Nat) (v:Value),l[j]? = some v → w.cell? ((⟨b',off',none⟩:Addr).add j) = some v:=fun j v hj => by rw [addr_add,cell?_eq];exact hc' j v hj
       by_cases hroom:ln + ys.length ≤ cap
       ·have h2:(ln + ys.length) * sh.length ≤ cap * sh.length:=Nat.mul_le_mul_right _ hroom
        rw [Nat.add_mul] at h2
        have hr:=run_append_room (P:=P) (ty:=o.type) ht hi (l:=l) (by rw [hsz];exact hll) hadd hroom (cap:=cap') hh (off:=0) (by rw [hsz];omega) hl.oneCell
        rw [hsz,Nat.zero_add,← hcl] at hr
        obtain ⟨r1,r2⟩:=hR.grown hob hh (by omega) f2 f1
        have hn1:({ S with objs:=(id,cs ++ ys.flatten) :: S.objs }:St).noMen nw:=by
         refine ⟨hn.env,fun k cs' hk => ?_,?_,hn.tok⟩
         ·rw [look_cons] at hk
          split at hk
          ·cases hk
           intro u hu
           rcases List.mem_append.1 hu with h | h
           ·exact hn.objs id cs hob u h
           ·obtain ⟨j,hj'⟩:=List.mem_iff_getElem?.1 h
            obtain ⟨q1,_⟩:=f2 j u hj'
            exact plain_men q1
          ·exact hn.objs k cs' hk
         ·rw [look_cons,if_neg (fun e => by subst e;rw [hn.obj] at hob;cases hob)];exact hn.obj
        obtain ⟨g',r3,r4,_⟩:=r1.moved hn1 (i:=id) (cs:=cs ++ ys.flatten) (by rw [look_cons,if_pos rfl])
        have r5:R E g' { S with objs:=(nw,cs ++ ys.flatten) :: S.objs.filter fun p => !(p.1 == id) } a (w.setRow (g.κ id) (c.toList.take cs.length ++ l ++ c.toList.drop (cs.length + l.length)).toArray):=by
         have:(((id,cs ++ ys.flatten) :: S.objs).filter fun p => !(p.1 == id)) = S.objs.filter fun p => !(p.1 == id):=by simp [List.filter]
         rw [← this]
         exact r3
        refine Does.value (x:=.slice (some ⟨g.κ id,0,none⟩) (ln + ys.length) cap) (g':=g') (w':=w.setRow (g.κ id) (c.toList.take cs.length ++ l ++ c.toList.drop (cs.length + l.length)).toArray) ?_ (r5.put hd (r4 _ _ _ ?_))
        ·rw [hexec,hex,hy',hr];rfl
        ·exact .lref id _ _ cap hroom hccp
       ·have hb47:(ln + ys.length) * i.bytes ≤ 140737488355328:=Nat.le_trans (Nat.mul_le_mul hle hby) (by decide)
        have hl0:(c.toList.take cs.length).length = ln * i.size:=by rw [hsz,← hcl];simp;omega
        have hr:=run_append_grow (P:=P) w t o.type e i z ht hi hz ⟨g.κ id,0,none⟩ ln cap (c.toList.take cs.length) hl0 (fun j v hj => by
          rw [addr_add,cell?_eq,cellAt_of hh,Nat.zero_add]
          rw [List.getElem?_take] at hj
          split at hj
          ·simpa using hj
          ·cases hj)
         ⟨b',off',none⟩ ys.length cap' l (by rw [hsz];exact hll) hadd (by omega) (by unfold lim at hle;omega) (growslice_fits (by omega) hb47)
        have hl0':(c.toList.take cs.length).length = cs.length:=by simp;omega
        have hcsz:cs.length + l.length + (grownCap w (ln + ys.length) cap e - (ln + ys.length)) * z.cells.size = grownCap w (ln + ys.length) cap e * sh.length:=by
         rw [hcl,hll,hzs,← Nat.add_mul,← Nat.add_mul];congr 1;have:=@grownCap_le w (ln + ys.length) cap e;omega
        have hn1:({ S with objs:=S.objs.filter fun p => !(p.1 == id) }:St).noMen nw:=by
         refine ⟨hn.env,fun k cs' hk => ?_,?_,hn.tok⟩
         ·rw [look_filt] at hk
          split at hk
          ·cases hk
          ·exact hn.objs k cs' hk
         ·rw [look_filt]
          split
          ·rfl
          ·exact hn.obj
        obtain ⟨g',r1,r2,r3⟩:=(hR.drop id).newObj (w':=w.drew.alloc (.cells ((c.toList.take cs.length).toArray ++ l.toArray ++ Builtin.zeroCells z.cells (grownCap w (ln + ys.length) cap e - (ln + ys.length))) e)) hn1 rfl rfl rfl rfl
         (cs:=cs ++ ys.flatten) (cpn:=grownCap w (ln + ys.length) cap e * sh.length) (hcpn:=by simp only [Array.size_append,zeroCells_size,List.size_toArray];omega) (fun j v hjv => by
          rw [List.getElem?_append] at hjv
          split at hjv
          ·rename_i hlt
           obtain ⟨q1,y,q2,q3⟩:=hj j v hjv
           refine ⟨q1,men_of_men0 (hn.objs id cs hob v (List.mem_of_getElem? hjv)),y,?_,q3⟩
           rw [Array.getElem?_append_left (by simp;omega),Array.getElem?_append_left (by simp;omega)]
           simp only [List.getElem?_toArray,List.getElem?_take,hlt,if_true]
           simpa using q2
          ·rename_i hlt
           obtain ⟨q1,y,q2,q3⟩:=f2 _ v hjv
           obtain ⟨p1,p2,p3⟩:=vplain q1 q3
           have:=lt_of_get? q2
           refine ⟨p1,p2 _,y,?_,p3⟩
           rw [Array.getElem?_append_left (by simp;omega),Array.getElem?_append_right (by simp;omega)]
           simp only [List.size_toArray,hl0']
           simpa using q2)
        refine Does.value (x:=.slice (some ⟨w.heap.size,0,none⟩) (ln + ys.length) (grownCap w (ln + ys.length) cap e)) (g':=g')
         (w':=w.drew.alloc (.cells ((c.toList.take cs.length).toArray ++ l.toArray ++ Builtin.zeroCells z.cells (grownCap w (ln + ys.length) cap e - (ln + ys.length))) e)) ?_ (r1.put hd ?_)
        ·rw [hexec,hex,hy',hr];rfl
        ·rw [← r2];exact .lref nw _ _ _ grownCap_le r3.symm
  ·cases hrun
 ·cases hrun
end
end Go.Vm

/- The value machine, 7: append, literals, stores, make, blocks that calls share. -/
import Derived.Test.YtfjdfnegookkcaaGreatVm6
namespace Go.Vm
set_option linter.all false
section
variable {P:Program} {E:Entry} {g g':Gh} {S S':St} {a:Act} {w w':World} {T':List (Nat × Nat)} {N' B:Nat}
theorem sl_slice {h:Array Obj} {m:Nat → Nat} {n:Nat} {ys:List (List V)} {x:Value} (hr:SlRel h m n ys x):∃ base cap,x = .slice base ys.length cap ∧ (ys ≠ [] → ∃ b off,base = some ⟨b,off,none⟩):=by
 rcases hr with ⟨rfl,base,cap,rfl⟩ | ⟨b,off,cap,l,rfl,_⟩
 ·exact ⟨base,cap,rfl,fun h => absurd rfl h⟩
 ·exact ⟨_,cap,rfl,fun _ => ⟨b,off,rfl⟩⟩
theorem run_append_zero {t ty e:TypeId} {i:TypeInfo} (ht:P.underlying t = some (.slice e)) (hi:P.info? e = some i) (base:Option Addr) (sLen sCap:Nat) (hle:sLen ≤ sCap) (base':Option Addr) (cap:Nat) :
  (Builtin.append_ #[t,t] ty #[.slice base sLen sCap,.slice base' 0 cap]).run P w = .ok (.slice base sLen sCap) w:=by
 have hu:=run_underlying' (P:=P) (w:=w) ht
 cases base' <;> cases base <;> simp [Builtin.append_,hu,sizeOf,typeInfo,hi,Builtin.lenOf,hle,Builtin.firstCells,loadCells,loadCellsFrom,storeCells]
theorem run_append_room {t ty e:TypeId} {i:TypeInfo} (ht:P.underlying t = some (.slice e)) (hi:P.info? e = some i) {b off sLen sCap:Nat} {x:Addr} {n cap:Nat} {l:List Value} (hl:l.length = n * i.size)
  (hx:∀ j v,l[j]? = some v → w.cell? (x.add j) = some v) (hle:sLen + n ≤ sCap) {c:Array Value} {et:TypeId} (hb:w.heap[b]? = some (.cells c et (0,0))) (hfit:off + sCap * i.size ≤ c.size) (h1:∀ v ∈ l,v.oneCell' = true) :
  (Builtin.append_ #[t,t] ty #[.slice (some ⟨b,off,none⟩) sLen sCap,.slice (some x) n cap]).run P w =
   .ok (.slice (some ⟨b,off,none⟩) (sLen + n) sCap) (w.setRow b (c.toList.take (off + sLen * i.size) ++ l ++ c.toList.drop (off + sLen * i.size + l.length)).toArray):=by
 have hu:=run_underlying' (P:=P) (w:=w) ht
 have hf:=run_firstCells_some (P:=P) w i.size n x n cap l hl hx
 have h2:(sLen + n) * i.size ≤ sCap * i.size:=Nat.mul_le_mul_right _ hle
 rw [Nat.add_mul] at h2
 have hst:=run_storeCells_at P b (off + sLen * i.size) et l 0 c w hb (by omega) h1
 simp only [Nat.add_zero] at hst
 have hz:(match P.underlying t with | some (.int _) => true | _ => false) = false:=by rw [ht]
 simp [Builtin.append_,hu,sizeOf,typeInfo,hi,Builtin.lenOf,hle,hf,addr_add,hst]
theorem grownCap_le {w:World} {need old:Nat} {e:TypeId}:need ≤ grownCap w need old e:=by
 simp only [grownCap,Question.cut];omega
theorem zeroCells_size (z:Array Value) (n:Nat):(Builtin.zeroCells z n).size = n * z.size:=by simp [Builtin.zeroCells]
structure ElemOK (P:Program) (e:TypeId) (n:Nat):Prop where
 info:∃ i z,P.info? e = some i ∧ i.zero = some z ∧ i.size = n ∧ z.cells.size = n ∧ i.bytes ≤ 32768
 pos:0 < n
theorem run_append_zed {t ty e:TypeId} {i:TypeInfo} {z x:Value} (ht:P.underlying t = some (.slice e)) (hi:P.info? e = some i) (hz:i.zero = some z) (h0:Zed x) {b:Addr} {n cap:Nat} {l:List Value} (hl:l.length = n * i.size)
  (hx:∀ j v,l[j]? = some v → w.cell? (b.add j) = some v) (hn:0 < n) (hle:n ≤ 140737488355328) (hby:n * i.bytes ≤ 140737488355328) :
  (Builtin.append_ #[t,t] ty #[x,.slice (some b) n cap]).run P w =
   .ok (.slice (some ⟨w.heap.size,0,none⟩) n (grownCap w n 0 e)) (w.drew.alloc (.cells (l.toArray ++ Builtin.zeroCells z.cells (grownCap w n 0 e - n)) e)):=by
 have hb48:n * i.bytes ≤ 281474976710656:=Nat.le_trans hby (by decide)
 rcases h0 with rfl | ⟨a0,rfl⟩
 ·exact run_append_nil (P:=P) w t ty e i z ht hi hz b n cap l hl hx hn (by omega) hb48
 ·have hg:=run_append_grow (P:=P) w t ty e i z ht hi hz a0 0 0 [] (by simp) (fun j v hj => by simp at hj)
   b n cap l hl hx (by omega) (by omega) (growslice_fits (by omega) (by rw [Nat.zero_add];exact hby))
  simpa using hg
theorem do_app {o:Oper} {t e:TypeId} {fam mx:Nat} {src:Option Nat} {sh:Sh} {p q:Operand} {x y:Opd} {C:CallF} (hmx:mx ≤ 140737488355328 ∧ ∀ i,P.info? e = some i → mx * i.bytes ≤ 140737488355328) (ho:o.op = .call ⟨.builtin .append,#[p,q],#[t,t]⟩) (ht:P.underlying t = some (.slice e)) (he:ElemOK P e sh.length)
  (hp:okOpd p x = true) (hq:okOpd q y = true) (hn:S.noMen fam) (hR:R E g S a w) (hd:∀ d,o.dst = some d → d < E.nt)
  (hrun:VO.run C o.dst S (.app fam src sh mx x y) = some S'):Does P E o S S' a w:=by
 obtain ⟨⟨i,z,hi,hz,hsz,hzs,_⟩,hpos⟩:=he
 obtain ⟨hmx0,hmx1⟩:=hmx
 have hmx1:=hmx1 i hi
 have hby:∀ n,n ≤ mx → n * i.bytes ≤ 140737488355328:=fun n h => Nat.le_trans (Nat.mul_le_mul_right _ h) hmx1
 have hexec:∀ w,(execOp a.eval o).run P w = ((Builtin.append_ #[t,t] o.type #[a.eval p,a.eval q]).run P w).andThen fun v w => .ok (.value v) w:=fun w => by
  simp [execOp,ho,resolve,invoke,builtin]
 have fin:∀ (f k:Nat) (ys:List (List V)) (v:Value) (g':Gh) (w':World),(Builtin.append_ #[t,t] o.type #[a.eval p,a.eval q]).run P w = .ok v w' →
   R E g' { S with toks:=(f,k) :: S.toks } a w' → XRel (({ S with toks:=(f,k) :: S.toks }:St).cx g' w') (.slice (some f) sh.length ys) v →
   Does P E o S (({ S with toks:=(f,k) :: S.toks }:St).put o.dst (.slice (some f) sh.length ys)) a w:=fun f k ys v g' w' h1 h2 h3 =>
  Does.value (x:=v) (w':=w') (g':=g') (by rw [hexec,h1];rfl) (h2.put hd h3)
 have first:∀ (f:Nat) (ys:List (List V)),(S.noMen f ∨ look f S.toks = some 0) → ys.length ≤ mx → Zed (a.eval p) → SlRel w.heap g.m sh.length ys (a.eval q) →
   ys ≠ [] → Does P E o S (({ S with toks:=(f,ys.length) :: S.toks }:St).put o.dst (.slice (some f) sh.length ys)) a w:=fun f ys hf hle h0 hys hne => by
  rcases hys with ⟨rfl,_⟩ | ⟨b,off,cap,l,hy,hcap,hc,hl⟩
  ·exact absurd rfl hne
  ·have hlen:0 < ys.length:=List.length_pos_iff.2 hne
   have hll:=hl.len
   have hr:=run_append_zed (P:=P) (ty:=o.type) (w:=w) ht hi hz h0 (b:=⟨b,off,none⟩) (n:=ys.length) (cap:=cap) (l:=l) (by rw [hsz];exact hll) (fun j v hj => by rw [addr_add,cell?_eq];exact hc j v hj) hlen (by omega) (hby _ hle)
   have hcsz:l.length + (grownCap w ys.length 0 e - ys.length) * z.cells.size = grownCap w ys.length 0 e * sh.length:=by
    rw [hll,hzs,← Nat.add_mul];congr 1;have:=@grownCap_le w ys.length 0 e;omega
   obtain ⟨g',h2,h3⟩:=hR.newTail (w':=w.drew.alloc (.cells (l.toArray ++ Builtin.zeroCells z.cells (grownCap w ys.length 0 e - ys.length)) e)) (f:=f) rfl rfl rfl rfl (n:=sh.length) (ys:=ys) (l:=l) hlen
    (hf.imp (fun z => z) fun h => ⟨0,h,hlen⟩) hl (fun j v hj => by rw [Array.getElem?_append_left (by have:=lt_of_get? hj;simpa using this)];simpa using hj) (cap:=grownCap w ys.length 0 e) grownCap_le
    (by simp only [Array.size_append,zeroCells_size,List.size_toArray];omega)
   exact fin f _ ys _ g' _ (by rw [hy];exact hr) h2 h3
 have start:∀ {b:V},Zed (a.eval p) → S.ev y = some b → (match S.rows sh b with
   | some ys => bif Nat.ble ys.length mx then some ({ S with toks:=(fam,ys.length) :: S.toks }.put o.dst (.slice (some fam) sh.length ys)) else none
   | none => none) = some S' → Does P E o S S' a w:=fun {b} h0 hy hrun => by
  split at hrun
  ·rename_i ys hrows
   cases hle:Nat.ble ys.length mx with
   | false => simp [hle] at hrun
   | true =>
     simp only [hle,cond_true] at hrun
     cases hrun
     have hle:=Nat.le_of_ble_eq_true hle
     have hys:=rows_rel hR (ev_rel hR hq hy) hrows
     by_cases hne:ys = []
     ·subst hne
      obtain ⟨base,cap,e1,_⟩:=sl_slice hys
      obtain ⟨g',h2,h3,_⟩:=hR.newNil hn
      refine fin fam 0 [] _ g' w ?_ h2 (h3 _ _ h0)
      rw [e1]
      rcases h0 with h0 | ⟨a0,h0⟩
      ·rw [h0];exact run_append_zero ht hi none 0 0 (Nat.le_refl _) base cap
      ·rw [h0];exact run_append_zero ht hi (some a0) 0 0 (Nat.le_refl _) base cap
     ·exact first fam ys (.inl hn) hle h0 hys hne
  ·cases hrun
 simp only [VO.run] at hrun
 split at hrun
 ·
  rename_i v hx hy
  exact start (.inl (rel_nils (ev_rel hR hp hx))) hy hrun
 ·
  rename_i n v hx hy
  exact start (rel_zed (ev_rel hR hp hx)) hy hrun
 ·
  rename_i f n es v hx hy
  split at hrun
  ·rename_i ys hrows
   split at hrun
   ·rename_i k hk
    have hk:look f S.toks = some k:=by
     cases hsrc:src == some f with
     | false => simp [hsrc] at hk
     | true => simpa [hsrc] using hk
    cases hc:(k == es.length && (n == sh.length) && Nat.ble (es.length + ys.length) mx) with
    | false => simp [hc] at hrun
    | true =>
      simp only [hc,cond_true] at hrun
      cases hrun
      simp only [Bool.and_eq_true,beq_iff_eq] at hc
      obtain ⟨⟨hk1,hn1⟩,hle⟩:=hc
      subst hk1;subst hn1
      have hle:=Nat.le_of_ble_eq_true hle
      have hys:=rows_rel hR (ev_rel hR hq hy) hrows
      have hxr:=ev_rel hR hp hx
      obtain ⟨hvx,htok⟩:VRel w.heap g.m (.slice (some f) sh.length es) (a.eval p) ∧ Tail (S.cx g w) f sh.length es.length (a.eval p):=by
       generalize a.eval p = xx at hxr
       cases hxr with
       | plain h ht => exact ⟨h,(ht f _ es rfl _ hk).2 rfl⟩
      by_cases hne:ys = []
      ·subst hne
       obtain ⟨base,cap,e1,_⟩:=sl_slice hys
       obtain ⟨h2,h3⟩:=hR.again hk
       obtain ⟨bx,cx,e2,hcx⟩:∃ bx cx,a.eval p = .slice bx es.length cx ∧ es.length ≤ cx:=by
        rcases sl_of_vrel hvx with ⟨h,base,cap,e⟩ | ⟨b,off,cap,l,e,hcap,_⟩
        ·exact ⟨base,cap,by rw [e,h];rfl,by simp [h]⟩
        ·exact ⟨_,cap,e,hcap⟩
       simp only [List.append_nil,List.length_nil,Nat.add_zero]
       refine fin f _ es (a.eval p) g w ?_ h2 (h3 _ _ hxr)
       rw [e1,e2]
       exact run_append_zero ht hi bx es.length cx hcx base cap
      ·rcases htok with ⟨h0,e0⟩ | ⟨b,off,cap,c,et,hτ,e0,hm,hb,hfit,hoff,_⟩
       ·have:es = []:=List.length_eq_zero_iff.1 h0
        subst this
        simp only [List.length_nil,Nat.zero_add,List.nil_append] at hle ⊢
        exact first f ys (.inr hk) hle e0 hys hne
       ·rcases hys with ⟨rfl,_⟩ | ⟨b',off',cap',l,hy',hcap',hc',hl⟩
        ·exact absurd rfl hne
        ·have hlen:0 < ys.length:=List.length_pos_iff.2 hne
         have hll:=hl.len
         have hsl:∃ b off cap l,a.eval p = .slice (some ⟨b,off,none⟩) es.length cap ∧ es.length ≤ cap ∧ (∀ (j:Nat) (y:Value),l[j]? = some y → cellAt w.heap b (off + j) = some y) ∧ RowsRel w.heap g.m sh.length es l:=by
          rcases sl_of_vrel' hvx with ⟨_,hex⟩ | ⟨hes,_⟩ | h
          ·rw [hex] at e0;cases e0
          ·subst hes
           exact ⟨b,off,cap,[],e0,Nat.zero_le _,fun j y h => by simp at h,⟨by simp,by simp,by simp⟩⟩
          ·exact h
         rcases hsl with ⟨bx,offx,capx,l0,hex,hcapx,hcx,hlx⟩
         ·rw [hex] at e0
          injection e0 with e1 e2 e3
          injection e1 with e1
          injection e1 with e4 e5
          subst e4;subst e5;subst e3
          have hadd:∀ (j:Nat) (v:Value),l[j]? = some v → w.cell? ((⟨b',off',none⟩:Addr).add j) = some v:=fun j v hj => by rw [addr_add,cell?_eq];exact hc' j v hj
          by_cases hroom:es.length + ys.length ≤ capx
          ·have hr:=run_append_room (P:=P) (ty:=o.type) ht hi (l:=l) (by rw [hsz];exact hll) hadd hroom (cap:=cap') hb (by rw [hsz];exact hfit) hl.oneCell
           rw [hsz] at hr
           obtain ⟨g',h2,h3⟩:=hR.growTail hk hτ hb hm hoff (cap:=capx) rfl hne hroom hfit hlx hcx hl rfl
           exact fin f _ (es ++ ys) _ g' _ (by rw [hex,hy'];exact hr) h2 h3
          ·have hb47:(es.length + ys.length) * i.bytes ≤ 140737488355328:=hby _ hle
           have hr:=run_append_grow (P:=P) w t o.type e i z ht hi hz ⟨bx,offx,none⟩ es.length capx l0 (by rw [hsz];exact hlx.len) (fun j v hj => by rw [addr_add,cell?_eq];exact hcx j v hj)
            ⟨b',off',none⟩ ys.length cap' l (by rw [hsz];exact hll) hadd (by omega) (by omega) (growslice_fits (by omega) hb47)
           have happ:=hlx.append hl
           have hlenl:(l0 ++ l).length = (es.length + ys.length) * sh.length:=by rw [happ.len];simp
           have hcsz:(l0 ++ l).length + (grownCap w (es.length + ys.length) capx e - (es.length + ys.length)) * z.cells.size = grownCap w (es.length + ys.length) capx e * sh.length:=by
            rw [hlenl,hzs,← Nat.add_mul];congr 1;have:=@grownCap_le w (es.length + ys.length) capx e;omega
           obtain ⟨g',h2,h3⟩:=hR.newTail (w':=w.drew.alloc (.cells (l0.toArray ++ l.toArray ++ Builtin.zeroCells z.cells (grownCap w (es.length + ys.length) capx e - (es.length + ys.length))) e)) (f:=f) rfl rfl rfl rfl
            (n:=sh.length) (ys:=es ++ ys) (l:=l0 ++ l) (by simp;omega) (.inr ⟨_,hk,by simp;omega⟩) happ
            (fun j v hj => by rw [Array.getElem?_append_left (by have:=lt_of_get? hj;simpa using this)];simpa using hj) (cap:=grownCap w (es.length + ys.length) capx e) (by rw [List.length_append];exact grownCap_le)
            (by simp only [Array.size_append,zeroCells_size,List.size_toArray];simp at hcsz;omega)
           rw [List.length_append] at h2 h3
           exact fin f _ (es ++ ys) _ g' _ (by rw [hex,hy'];exact hr) h2 h3
   ·cases hrun
  ·cases hrun
 ·cases hrun
end
end Go.Vm

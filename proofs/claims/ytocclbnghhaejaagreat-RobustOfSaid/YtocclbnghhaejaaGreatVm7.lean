/- The value machine, 7: append, literals, stores, make, blocks that calls share. -/
import Derived.Test.YtocclbnghhaejaaGreatVm6
namespace Go.Vm
set_option linter.all false
section
variable {P:Program} {E:Entry} {g g':Gh} {S S':St} {a:Act} {w w':World} {T':List (Nat×Nat)} {N' B:Nat}
theorem Er{h:Array Obj}{m:Nat→Nat}{n:Nat}{ys:List (List V)}{x:Value}(hr:Hu h m n ys x):∃base cap,x=.slice base ys.length cap∧(ys≠[]→∃b off,base=some ⟨b,off,none⟩):=by
 rcases hr with⟨rfl,base,cap,rfl⟩ | ⟨b,off,cap,l,rfl,_⟩
 ·exact⟨base,cap,rfl,fun h=>absurd rfl h⟩
 ·exact⟨_,cap,rfl,fun _=>⟨b,off,rfl⟩⟩
theorem yY{t ty e:TypeId}{i:TypeInfo}(ht:P.underlying t=some (.slice e))(hi:P.info? e=some i)(base:Option Addr)(uT w9:Nat)(hle:uT≤w9)(Es:Option Addr)(cap:Nat) :
  (Builtin.append_ #[t,t] ty #[.slice base uT w9,.slice Es 0 cap]).run P w=.ok (.slice base uT w9) w:=by
 have hu:=iV (P:=P) (w:=w) ht;cases Es<;>cases base<;>simp[Builtin.append_,hu,sizeOf,typeInfo,hi,Builtin.lenOf,hle,Builtin.firstCells,loadCells,loadCellsFrom,storeCells]
theorem run_append_room{t ty e:TypeId}{i:TypeInfo}(ht:P.underlying t=some (.slice e))(hi:P.info? e=some i){b off uT w9:Nat}{x:Addr}{n cap:Nat}{l:List Value}(hl:l.length=n*i.size)
  (hx:∀j v,l[j]?=some v→w.cell? (x.add j)=some v) (hle:uT+n≤w9) {c:Array Value} {et:TypeId} (hb:w.heap[b]?=some (.cells c et (0,0))) (fQ:off+w9*i.size≤c.size) (h1:∀v∈l,v.oneCell'=true) :
  (Builtin.append_ #[t,t] ty #[.slice (some ⟨b,off,none⟩) uT w9,.slice (some x) n cap]).run P w =
   .ok (.slice (some ⟨b,off,none⟩) (uT+n) w9) (w.setRow b (c.toList.take (off+uT*i.size)++l++c.toList.drop (off+uT*i.size+l.length)).toArray):=by
 have hu:=iV (P:=P) (w:=w) ht;have hf:=run_firstCells_some (P:=P) w i.size n x n cap l hl hx;have h2:(uT+n)*i.size≤w9*i.size:=Nat.mul_le_mul_right _ hle;rw[Nat.add_mul]at h2;have gN:=run_storeCells_at P b (off+uT*i.size) et l 0 c w hb (by omega) h1
 simp only[Nat.add_zero]at gN;have hz:(match P.underlying t with|some (.int _)=>true|_=>false)=false:=by rw[ht]
 simp[Builtin.append_,hu,sizeOf,typeInfo,hi,Builtin.lenOf,hle,hf,kG,gN]
theorem grownCap_le{w:World}{Rf my:Nat}{e:TypeId}:Rf≤grownCap w Rf my e:=by
 simp only[grownCap,Question.cut];omega
theorem Et(z:Array Value)(n:Nat):(Builtin.zeroCells z n).size=n*z.size:=by simp[Builtin.zeroCells]
structure Rg(P:Program)(e:TypeId)(n:Nat):Prop where
 info:∃i z,P.info? e=some i∧i.zero=some z∧i.size=n∧z.cells.size=n∧i.bytes≤32768
 pos:0<n
theorem KY{t ty e:TypeId}{i:TypeInfo}{z x:Value}(ht:P.underlying t=some (.slice e))(hi:P.info? e=some i)(hz:i.zero=some z)(h0:la x){b:Addr}{n cap:Nat}{l:List Value}(hl:l.length=n*i.size)
  (hx:∀j v,l[j]?=some v→w.cell? (b.add j)=some v) (hn:0<n) (hle:n≤140737488355328) (oZ:n*i.bytes≤140737488355328) :
  (Builtin.append_ #[t,t] ty #[x,.slice (some b) n cap]).run P w =
   .ok (.slice (some ⟨w.heap.size,0,none⟩) n (grownCap w n 0 e)) (w.drew.alloc (.cells (l.toArray++Builtin.zeroCells z.cells (grownCap w n 0 e-n)) e)):=by
 have acK:n*i.bytes≤281474976710656:=Nat.le_trans oZ (by decide)
 rcases h0 with rfl | ⟨a0,rfl⟩
 ·exact run_append_nil (P:=P) w t ty e i z ht hi hz b n cap l hl hx hn (by omega) acK
 ·have hg:=run_append_grow (P:=P) w t ty e i z ht hi hz a0 0 0 [] (by simp) (fun j v hj=>by simp at hj)
   b n cap l hl hx (by omega) (by omega) (growslice_fits (by omega) (by rw[Nat.zero_add];exact oZ))
  simpa using hg
theorem acL{o:Oper}{t e:TypeId}{bZ mx:Nat}{src:Option Nat}{sh:Sh}{p q:Operand}{x y:bq}{C:bw}(hmx:mx≤140737488355328∧∀i,P.info? e=some i→mx*i.bytes≤140737488355328)(ho:o.op=.call ⟨.builtin .append,#[p,q],#[t,t]⟩)(ht:P.underlying t=some (.slice e))(he:Rg P e sh.length)
  (hp:bO p x=true) (hq:bO q y=true) (hn:S.eG bZ) (hR:R E g S a w) (hd:∀d,o.dst=some d→d<E.nt)
  (ah:VO.run C o.dst S (.app bZ src sh mx x y)=some S'):cb P E o S S' a w:=by
 obtain⟨⟨i,z,hi,hz,eb,nM,_⟩,gM⟩:=he;obtain⟨aqq,KZ⟩:=hmx;have KZ:=KZ i hi;have oZ:∀n,n≤mx→n*i.bytes≤140737488355328:=fun n h=>Nat.le_trans (Nat.mul_le_mul_right _ h) KZ;have gp:∀w,(execOp a.eval o).run P w=((Builtin.append_ #[t,t] o.type #[a.eval p,a.eval q]).run P w).andThen fun v w=>.ok (.value v) w:=fun w=>by
  simp[execOp,ho,resolve,invoke,builtin]
 have fin:∀(f k:Nat) (ys:List (List V)) (v:Value) (g':Gh) (w':World),(Builtin.append_ #[t,t] o.type #[a.eval p,a.eval q]).run P w=.ok v w' →
   R E g' { S with bg:=(f,k)::S.bg } a w'→aZ (({ S with bg:=(f,k)::S.bg }:St).cx g' w') (.slice (some f) sh.length ys) v →
   cb P E o S (({ S with bg:=(f,k)::S.bg }:St).put o.dst (.slice (some f) sh.length ys)) a w:=fun f k ys v g' w' h1 h2 h3 =>
  cb.value (x:=v) (w':=w') (g':=g') (by rw[gp,h1];rfl) (h2.put hd h3)
 have first:∀(f:Nat) (ys:List (List V)),(S.eG f∨look f S.bg=some 0)→ys.length≤mx→la (a.eval p)→Hu w.heap g.m sh.length ys (a.eval q) →
   ys≠[]→cb P E o S (({ S with bg:=(f,ys.length)::S.bg }:St).put o.dst (.slice (some f) sh.length ys)) a w:=fun f ys hf hle h0 gO cg=>by
  rcases gO with⟨rfl,_⟩ | ⟨b,off,cap,l,hy,eA,hc,hl⟩
  ·exact absurd rfl cg
  ·have hlen:0<ys.length:=List.length_pos_iff.2 cg
   have ky:=hl.len;have hr:=KY (P:=P) (ty:=o.type) (w:=w) ht hi hz h0 (b:=⟨b,off,none⟩) (n:=ys.length) (cap:=cap) (l:=l) (by rw[eb];exact ky) (fun j v hj=>by rw[kG,cell?_eq];exact hc j v hj) hlen (by omega) (oZ _ hle)
   have Eu:l.length+(grownCap w ys.length 0 e-ys.length)*z.cells.size=grownCap w ys.length 0 e*sh.length:=by
    rw[ky,nM,← Nat.add_mul];congr 1;have:=@grownCap_le w ys.length 0 e;omega
   obtain⟨g',h2,h3⟩:=hR.KW (w':=w.drew.alloc (.cells (l.toArray++Builtin.zeroCells z.cells (grownCap w ys.length 0 e-ys.length)) e)) (f:=f) rfl rfl rfl rfl (n:=sh.length) (ys:=ys) (l:=l) hlen
    (hf.imp (fun z=>z) fun h=>⟨0,h,hlen⟩) hl (fun j v hj=>by rw[Array.getElem?_append_left (by have:=eK hj;simpa using this)];simpa using hj) (cap:=grownCap w ys.length 0 e) grownCap_le
    (by simp only[Array.size_append,Et,List.size_toArray];omega)
   exact fin f _ ys _ g' _ (by rw[hy];exact hr) h2 h3
 have start:∀{b:V},la (a.eval p)→S.ev y=some b→(match S.rows sh b with
   |some ys=>bif Nat.ble ys.length mx then some ({ S with bg:=(bZ,ys.length)::S.bg }.put o.dst (.slice (some bZ) sh.length ys)) else none
   |none=>none)=some S'→cb P E o S S' a w:=fun {b} h0 hy ah=>by
  split at ah
  ·rename_i ys jL
   cases hle:Nat.ble ys.length mx with
   |false=>simp[hle]at ah
   |true =>
    simp only[hle,cond_true]at ah;cases ah;have hle:=Nat.le_of_ble_eq_true hle;have gO:=Ep hR (cQ hR hq hy) jL;by_cases cg:ys=[]
    ·subst cg
     obtain⟨base,cap,e1,_⟩:=Er gO;obtain⟨g',h2,h3,_⟩:=hR.Hy hn;refine fin bZ 0 [] _ g' w ?_ h2 (h3 _ _ h0);rw[e1];rcases h0 with h0 | ⟨a0,h0⟩
     ·rw[h0];exact yY ht hi none 0 0 (Nat.le_refl _) base cap
     ·rw[h0];exact yY ht hi (some a0) 0 0 (Nat.le_refl _) base cap
    ·exact first bZ ys (.inl hn) hle h0 gO cg
  ·cases ah
 simp only[VO.run]at ah;split at ah
 ·
  rename_i v hx hy;exact start (.inl (nG (cQ hR hp hx))) hy ah
 ·
  rename_i n v hx hy;exact start (sJ (cQ hR hp hx)) hy ah
 ·
  rename_i f n es v hx hy;split at ah
  ·rename_i ys jL
   split at ah
   ·rename_i k hk
    have hk:look f S.bg=some k:=by
     cases Hz:src==some f with
     |false=>simp[Hz]at hk
     |true=>simpa [Hz] using hk
    cases hc:(k==es.length&&(n==sh.length)&&Nat.ble (es.length+ys.length) mx) with
    |false=>simp[hc]at ah
    |true =>
     simp only[hc,cond_true]at ah;cases ah;simp only[Bool.and_eq_true,beq_iff_eq]at hc;obtain⟨⟨K0,xa⟩,hle⟩:=hc;subst K0;subst xa;have hle:=Nat.le_of_ble_eq_true hle;have gO:=Ep hR (cQ hR hq hy) jL;have pR:=cQ hR hp hx;obtain⟨Rh,ry⟩:fg w.heap g.m (.slice (some f) sh.length es) (a.eval p)∧wX (S.cx g w) f sh.length es.length (a.eval p):=by
      generalize a.eval p=xx at pR;cases pR with
      |plain h ht=>exact⟨h,(ht f _ es rfl _ hk).2 rfl⟩
     by_cases cg:ys=[]
     ·subst cg
      obtain⟨base,cap,e1,_⟩:=Er gO;obtain⟨h2,h3⟩:=hR.again hk;obtain⟨bx,cx,e2,lZ⟩:∃bx cx,a.eval p=.slice bx es.length cx∧es.length≤cx:=by
       rcases Q7 Rh with⟨h,base,cap,e⟩ | ⟨b,off,cap,l,e,eA,_⟩
       ·exact⟨base,cap,by rw[e,h];rfl,by simp[h]⟩
       ·exact⟨_,cap,e,eA⟩
      simp only[List.append_nil,List.length_nil,Nat.add_zero];refine fin f _ es (a.eval p) g w ?_ h2 (h3 _ _ pR);rw[e1,e2];exact yY ht hi bx es.length cx lZ base cap
     ·rcases ry with⟨h0,e0⟩ | ⟨b,off,cap,c,et,hτ,e0,hm,hb,fQ,iW,_⟩
      ·have:es=[]:=List.length_eq_zero_iff.1 h0
       subst this;simp only[List.length_nil,Nat.zero_add,List.nil_append]at hle ⊢;exact first f ys (.inr hk) hle e0 gO cg
      ·rcases gO with⟨rfl,_⟩ | ⟨b',off',qu,l,xb,hcap',vT,hl⟩
       ·exact absurd rfl cg
       ·have hlen:0<ys.length:=List.length_pos_iff.2 cg
        have ky:=hl.len;have HA:∃b off cap l,a.eval p=.slice (some ⟨b,off,none⟩) es.length cap∧es.length≤cap∧(∀(j:Nat) (y:Value),l[j]?=some y→cellAt w.heap b (off+j)=some y)∧jz w.heap g.m sh.length es l:=by
         rcases Hv Rh with⟨_,hex⟩ | ⟨lL,_⟩ | h
         ·rw[hex]at e0;cases e0
         ·subst lL
          exact⟨b,off,cap,[],e0,Nat.zero_le _,fun j y h=>by simp at h,⟨by simp,by simp,by simp⟩⟩
         ·exact h
        rcases HA with⟨bx,offx,capx,l0,hex,hcapx,lZ,uU⟩
        ·rw[hex]at e0
         injection e0 with e1 e2 e3;injection e1 with e1;injection e1 with e4 e5;subst e4;subst e5;subst e3;have Ew:∀(j:Nat) (v:Value),l[j]?=some v→w.cell? ((⟨b',off',none⟩:Addr).add j)=some v:=fun j v hj=>by rw[kG,cell?_eq];exact vT j v hj
         by_cases Ci:es.length+ys.length≤capx
         ·have hr:=run_append_room (P:=P) (ty:=o.type) ht hi (l:=l) (by rw[eb];exact ky) Ew Ci (cap:=qu) hb (by rw[eb];exact fQ) hl.AD
          rw[eb]at hr;obtain⟨g',h2,h3⟩:=hR.acG hk hτ hb hm iW (cap:=capx) rfl cg Ci fQ uU lZ hl rfl;exact fin f _ (es++ys) _ g' _ (by rw[hex,xb];exact hr) h2 h3
         ·have K1:(es.length+ys.length)*i.bytes≤140737488355328:=oZ _ hle
          have hr:=run_append_grow (P:=P) w t o.type e i z ht hi hz ⟨bx,offx,none⟩ es.length capx l0 (by rw[eb];exact uU.len) (fun j v hj=>by rw[kG,cell?_eq];exact lZ j v hj)
           ⟨b',off',none⟩ ys.length qu l (by rw[eb];exact ky) Ew (by omega) (by omega) (growslice_fits (by omega) K1)
          have Ri:=uU.append hl;have acN:(l0++l).length=(es.length+ys.length)*sh.length:=by rw[Ri.len];simp
          have Eu:(l0++l).length+(grownCap w (es.length+ys.length) capx e-(es.length+ys.length))*z.cells.size=grownCap w (es.length+ys.length) capx e*sh.length:=by
           rw[acN,nM,← Nat.add_mul];congr 1;have:=@grownCap_le w (es.length+ys.length) capx e;omega
          obtain⟨g',h2,h3⟩:=hR.KW (w':=w.drew.alloc (.cells (l0.toArray++l.toArray++Builtin.zeroCells z.cells (grownCap w (es.length+ys.length) capx e-(es.length+ys.length))) e)) (f:=f) rfl rfl rfl rfl
           (n:=sh.length) (ys:=es++ys) (l:=l0++l) (by simp;omega) (.inr ⟨_,hk,by simp;omega⟩) Ri
           (fun j v hj=>by rw[Array.getElem?_append_left (by have:=eK hj;simpa using this)];simpa using hj) (cap:=grownCap w (es.length+ys.length) capx e) (by rw[List.length_append];exact grownCap_le)
           (by simp only[Array.size_append,Et,List.size_toArray];simp at Eu;omega)
          rw[List.length_append]at h2 h3;exact fin f _ (es++ys) _ g' _ (by rw[hex,xb];exact hr) h2 h3
   ·cases ah
  ·cases ah
 ·cases ah
end
end Go.Vm

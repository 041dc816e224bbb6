/- The value machine, 7: append, literals, stores, make, blocks that calls share. -/
import Derived.Test.YtmpikpodpgnjhaaGreatVm6
namespace Go.Vm
set_option linter.all false
section
variable {P:Program} {E:Entry} {g g':Gh} {S S':St} {a:Act} {w w':World} {T':List (Nat×Nat)} {N' B:Nat}
theorem B0{h:Array Obj}{m:Nat→Nat}{n:Nat}{ys:List (List V)}{x:Value}(hr:EN h m n ys x):∃base cap,x=.slice base ys.length cap∧(ys≠[]→∃b off,base=some ⟨b,off,none⟩):=by
 rcases hr with⟨rfl,base,cap,rfl⟩ | ⟨b,off,cap,l,rfl,_⟩
 ·exact⟨base,cap,rfl,fun h=>absurd rfl h⟩
 ·exact⟨_,cap,rfl,fun _=>⟨b,off,rfl⟩⟩
theorem w9{t ty e:TypeId}{i:TypeInfo}(ht:P.underlying t=some (.slice e))(hi:P.info? e=some i)(base:Option Addr)(tE vz:Nat)(hle:tE≤vz)(B1:Option Addr)(cap:Nat) :
  (Builtin.append_ #[t,t] ty #[.slice base tE vz,.slice B1 0 cap]).run P w=.ok (.slice base tE vz) w:=by
 have hu:=iE (P:=P) (w:=w) ht;cases B1<;>cases base<;>simp[Builtin.append_,hu,sizeOf,typeInfo,hi,Builtin.lenOf,hle,Builtin.firstCells,loadCells,loadCellsFrom,storeCells]
theorem run_append_room{t ty e:TypeId}{i:TypeInfo}(ht:P.underlying t=some (.slice e))(hi:P.info? e=some i){b off tE vz:Nat}{x:Addr}{n cap:Nat}{l:List Value}(hl:l.length=n*i.size)
  (hx:∀j v,l[j]?=some v→w.cell? (x.add j)=some v) (hle:tE+n≤vz) {c:Array Value} {et:TypeId} (hb:w.heap[b]?=some (.cells c et (0,0))) (fy:off+vz*i.size≤c.size) (h1:∀v∈l,v.oneCell'=true) :
  (Builtin.append_ #[t,t] ty #[.slice (some ⟨b,off,none⟩) tE vz,.slice (some x) n cap]).run P w =
   .ok (.slice (some ⟨b,off,none⟩) (tE+n) vz) (w.setRow b (c.toList.take (off+tE*i.size)++l++c.toList.drop (off+tE*i.size+l.length)).toArray):=by
 have hu:=iE (P:=P) (w:=w) ht;have hf:=run_firstCells_some (P:=P) w i.size n x n cap l hl hx;have h2:(tE+n)*i.size≤vz*i.size:=Nat.mul_le_mul_right _ hle;rw[Nat.add_mul]at h2;have fA:=run_storeCells_at P b (off+tE*i.size) et l 0 c w hb (by omega) h1
 simp only[Nat.add_zero]at fA;have hz:(match P.underlying t with|some (.int _)=>true|_=>false)=false:=by rw[ht]
 simp[Builtin.append_,hu,sizeOf,typeInfo,hi,Builtin.lenOf,hle,hf,km,fA]
theorem grownCap_le{w:World}{N9 kW:Nat}{e:TypeId}:N9≤grownCap w N9 kW e:=by
 simp only[grownCap,Question.cut];omega
theorem B2(z:Array Value)(n:Nat):(Builtin.zeroCells z n).size=n*z.size:=by simp[Builtin.zeroCells]
structure Oa(P:Program)(e:TypeId)(n:Nat):Prop where
 info:∃i z,P.info? e=some i∧i.zero=some z∧i.size=n∧z.cells.size=n∧i.bytes≤32768
 pos:0<n
theorem Ip{t ty e:TypeId}{i:TypeInfo}{z x:Value}(ht:P.underlying t=some (.slice e))(hi:P.info? e=some i)(hz:i.zero=some z)(h0:kj x){b:Addr}{n cap:Nat}{l:List Value}(hl:l.length=n*i.size)
  (hx:∀j v,l[j]?=some v→w.cell? (b.add j)=some v) (hn:0<n) (hle:n≤140737488355328) (qf:n*i.bytes≤140737488355328) :
  (Builtin.append_ #[t,t] ty #[x,.slice (some b) n cap]).run P w =
   .ok (.slice (some ⟨w.heap.size,0,none⟩) n (grownCap w n 0 e)) (w.drew.alloc (.cells (l.toArray++Builtin.zeroCells z.cells (grownCap w n 0 e-n)) e)):=by
 have YE:n*i.bytes≤281474976710656:=Nat.le_trans qf (by decide)
 rcases h0 with rfl | ⟨a0,rfl⟩
 ·exact run_append_nil (P:=P) w t ty e i z ht hi hz b n cap l hl hx hn (by omega) YE
 ·have hg:=run_append_grow (P:=P) w t ty e i z ht hi hz a0 0 0 [] (by simp) (fun j v hj=>by simp at hj)
   b n cap l hl hx (by omega) (by omega) (growslice_fits (by omega) (by rw[Nat.zero_add];exact qf))
  simpa using hg
theorem YF{o:Oper}{t e:TypeId}{bT mx:Nat}{src:Option Nat}{sh:Sh}{p q:Operand}{x y:bj}{C:bm}(YG:mx≤140737488355328∧∀i,P.info? e=some i→mx*i.bytes≤140737488355328)(ho:o.op=.call ⟨.builtin .append,#[p,q],#[t,t]⟩)(ht:P.underlying t=some (.slice e))(he:Oa P e sh.length)
  (hp:bJ p x=true) (hq:bJ q y=true) (hn:S.ez bT) (hR:R E g S a w) (hd:∀d,o.dst=some d→d<E.nt)
  (ah:VO.run C o.dst S (.app bT src sh mx x y)=some S'):b0 P E o S S' a w:=by
 obtain⟨⟨i,z,hi,hz,ei,mV,_⟩,gG⟩:=he;obtain⟨akr,Iq⟩:=YG;have Iq:=Iq i hi;have qf:∀n,n≤mx→n*i.bytes≤140737488355328:=fun n h=>Nat.le_trans (Nat.mul_le_mul_right _ h) Iq;have fW:∀w,(execOp a.eval o).run P w=((Builtin.append_ #[t,t] o.type #[a.eval p,a.eval q]).run P w).andThen fun v w=>.ok (.value v) w:=fun w=>by
  simp[execOp,ho,resolve,invoke,builtin]
 have fin:∀(f k:Nat) (ys:List (List V)) (v:Value) (g':Gh) (w':World),(Builtin.append_ #[t,t] o.type #[a.eval p,a.eval q]).run P w=.ok v w' →
   R E g' { S with a7:=(f,k)::S.a7 } a w'→aY (({ S with a7:=(f,k)::S.a7 }:St).cx g' w') (.slice (some f) sh.length ys) v →
   b0 P E o S (({ S with a7:=(f,k)::S.a7 }:St).put o.dst (.slice (some f) sh.length ys)) a w:=fun f k ys v g' w' h1 h2 h3 =>
  b0.value (x:=v) (w':=w') (g':=g') (by rw[fW,h1];rfl) (h2.put hd h3)
 have first:∀(f:Nat) (ys:List (List V)),(S.ez f∨look f S.a7=some 0)→ys.length≤mx→kj (a.eval p)→EN w.heap g.m sh.length ys (a.eval q) →
   ys≠[]→b0 P E o S (({ S with a7:=(f,ys.length)::S.a7 }:St).put o.dst (.slice (some f) sh.length ys)) a w:=fun f ys hf hle h0 gf ch=>by
  rcases gf with⟨rfl,_⟩ | ⟨b,off,cap,l,hy,eu,hc,hl⟩
  ·exact absurd rfl ch
  ·have hlen:0<ys.length:=List.length_pos_iff.2 ch
   have jV:=hl.len;have hr:=Ip (P:=P) (ty:=o.type) (w:=w) ht hi hz h0 (b:=⟨b,off,none⟩) (n:=ys.length) (cap:=cap) (l:=l) (by rw[ei];exact jV) (fun j v hj=>by rw[km,cell?_eq];exact hc j v hj) hlen (by omega) (qf _ hle)
   have B3:l.length+(grownCap w ys.length 0 e-ys.length)*z.cells.size=grownCap w ys.length 0 e*sh.length:=by
    rw[jV,mV,← Nat.add_mul];congr 1;have:=@grownCap_le w ys.length 0 e;omega
   obtain⟨g',h2,h3⟩:=hR.Im (w':=w.drew.alloc (.cells (l.toArray++Builtin.zeroCells z.cells (grownCap w ys.length 0 e-ys.length)) e)) (f:=f) rfl rfl rfl rfl (n:=sh.length) (ys:=ys) (l:=l) hlen
    (hf.imp (fun z=>z) fun h=>⟨0,h,hlen⟩) hl (fun j v hj=>by rw[Array.getElem?_append_left (by have:=eC hj;simpa using this)];simpa using hj) (cap:=grownCap w ys.length 0 e) grownCap_le
    (by simp only[Array.size_append,B2,List.size_toArray];omega)
   exact fin f _ ys _ g' _ (by rw[hy];exact hr) h2 h3
 have start:∀{b:V},kj (a.eval p)→S.ev y=some b→(match S.rows sh b with
   |some ys=>bif Nat.ble ys.length mx then some ({ S with a7:=(bT,ys.length)::S.a7 }.put o.dst (.slice (some bT) sh.length ys)) else none
   |none=>none)=some S'→b0 P E o S S' a w:=fun {b} h0 hy ah=>by
  split at ah
  ·rename_i ys ko
   cases hle:Nat.ble ys.length mx with
   |false=>simp[hle]at ah
   |true =>
    simp only[hle,cond_true]at ah;cases ah;have hle:=Nat.le_of_ble_eq_true hle;have gf:=BY hR (cL hR hq hy) ko;by_cases ch:ys=[]
    ·subst ch
     obtain⟨base,cap,e1,_⟩:=B0 gf;obtain⟨g',h2,h3,_⟩:=hR.ER hn;refine fin bT 0 [] _ g' w ?_ h2 (h3 _ _ h0);rw[e1];rcases h0 with h0 | ⟨a0,h0⟩
     ·rw[h0];exact w9 ht hi none 0 0 (Nat.le_refl _) base cap
     ·rw[h0];exact w9 ht hi (some a0) 0 0 (Nat.le_refl _) base cap
    ·exact first bT ys (.inl hn) hle h0 gf ch
  ·cases ah
 simp only[VO.run]at ah;split at ah
 ·
  rename_i v hx hy;exact start (.inl (nE (cL hR hp hx))) hy ah
 ·
  rename_i n v hx hy;exact start (qQ (cL hR hp hx)) hy ah
 ·
  rename_i f n es v hx hy;split at ah
  ·rename_i ys ko
   split at ah
   ·rename_i k hk
    have hk:look f S.a7=some k:=by
     cases ES:src==some f with
     |false=>simp[ES]at hk
     |true=>simpa [ES] using hk
    cases hc:(k==es.length&&(n==sh.length)&&Nat.ble (es.length+ys.length) mx) with
    |false=>simp[hc]at ah
    |true =>
     simp only[hc,cond_true]at ah;cases ah;simp only[Bool.and_eq_true,beq_iff_eq]at hc;obtain⟨⟨tF,vA⟩,hle⟩:=hc;subst tF;subst vA;have hle:=Nat.le_of_ble_eq_true hle;have gf:=BY hR (cL hR hq hy) ko;have pn:=cL hR hp hx;obtain⟨Ob,qe⟩:eS w.heap g.m (.slice (some f) sh.length es) (a.eval p)∧vv (S.cx g w) f sh.length es.length (a.eval p):=by
      generalize a.eval p=xx at pn;cases pn with
      |plain h ht=>exact⟨h,(ht f _ es rfl _ hk).2 rfl⟩
     by_cases ch:ys=[]
     ·subst ch
      obtain⟨base,cap,e1,_⟩:=B0 gf;obtain⟨h2,h3⟩:=hR.again hk;obtain⟨bx,cx,e2,lJ⟩:∃bx cx,a.eval p=.slice bx es.length cx∧es.length≤cx:=by
       rcases N3 Ob with⟨h,base,cap,e⟩ | ⟨b,off,cap,l,e,eu,_⟩
       ·exact⟨base,cap,by rw[e,h];rfl,by simp[h]⟩
       ·exact⟨_,cap,e,eu⟩
      simp only[List.append_nil,List.length_nil,Nat.add_zero];refine fin f _ es (a.eval p) g w ?_ h2 (h3 _ _ pn);rw[e1,e2];exact w9 ht hi bx es.length cx lJ base cap
     ·rcases qe with⟨h0,e0⟩ | ⟨b,off,cap,c,et,hτ,e0,hm,hb,fy,mS,_⟩
      ·have:es=[]:=List.length_eq_zero_iff.1 h0
       subst this;simp only[List.length_nil,Nat.zero_add,List.nil_append]at hle ⊢;exact first f ys (.inr hk) hle e0 gf ch
      ·rcases gf with⟨rfl,_⟩ | ⟨b',off',nI,l,vB,hcap',uK,hl⟩
       ·exact absurd rfl ch
       ·have hlen:0<ys.length:=List.length_pos_iff.2 ch
        have jV:=hl.len;have ET:∃b off cap l,a.eval p=.slice (some ⟨b,off,none⟩) es.length cap∧es.length≤cap∧(∀(j:Nat) (y:Value),l[j]?=some y→cellAt w.heap b (off+j)=some y)∧iU w.heap g.m sh.length es l:=by
         rcases EO Ob with⟨_,hex⟩ | ⟨mF,_⟩ | h
         ·rw[hex]at e0;cases e0
         ·subst mF
          exact⟨b,off,cap,[],e0,Nat.zero_le _,fun j y h=>by simp at h,⟨by simp,by simp,by simp⟩⟩
         ·exact h
        rcases ET with⟨bx,offx,capx,l0,hex,hcapx,lJ,tG⟩
        ·rw[hex]at e0
         injection e0 with e1 e2 e3;injection e1 with e1;injection e1 with e4 e5;subst e4;subst e5;subst e3;have B5:∀(j:Nat) (v:Value),l[j]?=some v→w.cell? ((⟨b',off',none⟩:Addr).add j)=some v:=fun j v hj=>by rw[km,cell?_eq];exact uK j v hj
         by_cases Ad:es.length+ys.length≤capx
         ·have hr:=run_append_room (P:=P) (ty:=o.type) ht hi (l:=l) (by rw[ei];exact jV) B5 Ad (cap:=nI) hb (by rw[ei];exact fy) hl.yr
          rw[ei]at hr;obtain⟨g',h2,h3⟩:=hR.YA hk hτ hb hm mS (cap:=capx) rfl ch Ad fy tG lJ hl rfl;exact fin f _ (es++ys) _ g' _ (by rw[hex,vB];exact hr) h2 h3
         ·have Ir:(es.length+ys.length)*i.bytes≤140737488355328:=qf _ hle
          have hr:=run_append_grow (P:=P) w t o.type e i z ht hi hz ⟨bx,offx,none⟩ es.length capx l0 (by rw[ei];exact tG.len) (fun j v hj=>by rw[km,cell?_eq];exact lJ j v hj)
           ⟨b',off',none⟩ ys.length nI l (by rw[ei];exact jV) B5 (by omega) (by omega) (growslice_fits (by omega) Ir)
          have Oc:=tG.append hl;have YH:(l0++l).length=(es.length+ys.length)*sh.length:=by rw[Oc.len];simp
          have B3:(l0++l).length+(grownCap w (es.length+ys.length) capx e-(es.length+ys.length))*z.cells.size=grownCap w (es.length+ys.length) capx e*sh.length:=by
           rw[YH,mV,← Nat.add_mul];congr 1;have:=@grownCap_le w (es.length+ys.length) capx e;omega
          obtain⟨g',h2,h3⟩:=hR.Im (w':=w.drew.alloc (.cells (l0.toArray++l.toArray++Builtin.zeroCells z.cells (grownCap w (es.length+ys.length) capx e-(es.length+ys.length))) e)) (f:=f) rfl rfl rfl rfl
           (n:=sh.length) (ys:=es++ys) (l:=l0++l) (by simp;omega) (.inr ⟨_,hk,by simp;omega⟩) Oc
           (fun j v hj=>by rw[Array.getElem?_append_left (by have:=eC hj;simpa using this)];simpa using hj) (cap:=grownCap w (es.length+ys.length) capx e) (by rw[List.length_append];exact grownCap_le)
           (by simp only[Array.size_append,B2,List.size_toArray];simp at B3;omega)
          rw[List.length_append]at h2 h3;exact fin f _ (es++ys) _ g' _ (by rw[hex,vB];exact hr) h2 h3
   ·cases ah
  ·cases ah
 ·cases ah
end
end Go.Vm

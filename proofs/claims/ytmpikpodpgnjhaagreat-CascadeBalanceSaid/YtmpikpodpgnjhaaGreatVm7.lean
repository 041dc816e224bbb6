/- The value machine, 7: append, literals, stores, make, blocks that calls share. -/
import Derived.Test.YtmpikpodpgnjhaaGreatVm6
namespace Go.Vm
set_option linter.all false
section
variable {P:Program} {E:Entry} {g g':Gh} {S S':St} {a:Act} {w w':World} {T':List (Nat×Nat)} {N' B:Nat}
theorem Cb{h:Array Obj}{m:Nat→Nat}{n:Nat}{ys:List (List V)}{x:Value}(hr:EP h m n ys x):∃base cap,x=.slice base ys.length cap∧(ys≠[]→∃b off,base=some ⟨b,off,none⟩):=by
 rcases hr with⟨rfl,base,cap,rfl⟩ | ⟨b,off,cap,l,rfl,_⟩
 ·exact⟨base,cap,rfl,fun h=>absurd rfl h⟩
 ·exact⟨_,cap,rfl,fun _=>⟨b,off,rfl⟩⟩
theorem wL{t ty e:TypeId}{i:TypeInfo}(ht:P.underlying t=some (.slice e))(hi:P.info? e=some i)(base:Option Addr)(th u6:Nat)(hle:th≤u6)(Cc:Option Addr)(cap:Nat) :
  (Builtin.append_ #[t,t] ty #[.slice base th u6,.slice Cc 0 cap]).run P w=.ok (.slice base th u6) w:=by
 have hu:=ja (P:=P) (w:=w) ht;cases Cc<;>cases base<;>simp[Builtin.append_,hu,sizeOf,typeInfo,hi,Builtin.lenOf,hle,Builtin.firstCells,loadCells,loadCellsFrom,storeCells]
theorem run_append_room{t ty e:TypeId}{i:TypeInfo}(ht:P.underlying t=some (.slice e))(hi:P.info? e=some i){b off th u6:Nat}{x:Addr}{n cap:Nat}{l:List Value}(hl:l.length=n*i.size)
  (hx:∀j v,l[j]?=some v→w.cell? (x.add j)=some v) (hle:th+n≤u6) {c:Array Value} {et:TypeId} (hb:w.heap[b]?=some (.cells c et (0,0))) (fX:off+u6*i.size≤c.size) (h1:∀v∈l,v.oneCell'=true) :
  (Builtin.append_ #[t,t] ty #[.slice (some ⟨b,off,none⟩) th u6,.slice (some x) n cap]).run P w =
   .ok (.slice (some ⟨b,off,none⟩) (th+n) u6) (w.setRow b (c.toList.take (off+th*i.size)++l++c.toList.drop (off+th*i.size+l.length)).toArray):=by
 have hu:=ja (P:=P) (w:=w) ht;have hf:=run_firstCells_some (P:=P) w i.size n x n cap l hl hx;have h2:(th+n)*i.size≤u6*i.size:=Nat.mul_le_mul_right _ hle;rw[Nat.add_mul]at h2;have j8:=run_storeCells_at P b (off+th*i.size) et l 0 c w hb (by omega) h1
 simp only[Nat.add_zero]at j8;have hz:(match P.underlying t with|some (.int _)=>true|_=>false)=false:=by rw[ht]
 simp[Builtin.append_,hu,sizeOf,typeInfo,hi,Builtin.lenOf,hle,hf,kI,j8]
theorem grownCap_le{w:World}{Oe lz:Nat}{e:TypeId}:Oe≤grownCap w Oe lz e:=by
 simp only[grownCap,Question.cut];omega
theorem Cd(z:Array Value)(n:Nat):(Builtin.zeroCells z n).size=n*z.size:=by simp[Builtin.zeroCells]
structure Of(P:Program)(e:TypeId)(n:Nat):Prop where
 info:∃i z,P.info? e=some i∧i.zero=some z∧i.size=n∧z.cells.size=n∧i.bytes≤32768
 pos:0<n
theorem Iu{t ty e:TypeId}{i:TypeInfo}{z x:Value}(ht:P.underlying t=some (.slice e))(hi:P.info? e=some i)(hz:i.zero=some z)(h0:kG x){b:Addr}{n cap:Nat}{l:List Value}(hl:l.length=n*i.size)
  (hx:∀j v,l[j]?=some v→w.cell? (b.add j)=some v) (hn:0<n) (hle:n≤140737488355328) (qu:n*i.bytes≤140737488355328) :
  (Builtin.append_ #[t,t] ty #[x,.slice (some b) n cap]).run P w =
   .ok (.slice (some ⟨w.heap.size,0,none⟩) n (grownCap w n 0 e)) (w.drew.alloc (.cells (l.toArray++Builtin.zeroCells z.cells (grownCap w n 0 e-n)) e)):=by
 have WX:n*i.bytes≤281474976710656:=Nat.le_trans qu (by decide)
 rcases h0 with rfl | ⟨a0,rfl⟩
 ·exact run_append_nil (P:=P) w t ty e i z ht hi hz b n cap l hl hx hn (by omega) WX
 ·have hg:=run_append_grow (P:=P) w t ty e i z ht hi hz a0 0 0 [] (by simp) (fun j v hj=>by simp at hj)
   b n cap l hl hx (by omega) (by omega) (growslice_fits (by omega) (by rw[Nat.zero_add];exact qu))
  simpa using hg
theorem WY{o:Oper}{t e:TypeId}{cf mx:Nat}{src:Option Nat}{sh:Sh}{p q:Operand}{x y:bB}{C:bC}(WZ:mx≤140737488355328∧∀i,P.info? e=some i→mx*i.bytes≤140737488355328)(ho:o.op=.call ⟨.builtin .append,#[p,q],#[t,t]⟩)(ht:P.underlying t=some (.slice e))(he:Of P e sh.length)
  (hp:bX p x=true) (hq:bX q y=true) (hn:S.eR cf) (hR:R E g S a w) (hd:∀d,o.dst=some d→d<E.nt)
  (aj:VO.run C o.dst S (.app cf src sh mx x y)=some S'):ct P E o S S' a w:=by
 obtain⟨⟨i,z,hi,hz,eH,nh,_⟩,hH⟩:=he;obtain⟨akN,Iv⟩:=WZ;have Iv:=Iv i hi;have qu:∀n,n≤mx→n*i.bytes≤140737488355328:=fun n h=>Nat.le_trans (Nat.mul_le_mul_right _ h) Iv;have gI:∀w,(execOp a.eval o).run P w=((Builtin.append_ #[t,t] o.type #[a.eval p,a.eval q]).run P w).andThen fun v w=>.ok (.value v) w:=fun w=>by
  simp[execOp,ho,resolve,invoke,builtin]
 have fin:∀(f k:Nat) (ys:List (List V)) (v:Value) (g':Gh) (w':World),(Builtin.append_ #[t,t] o.type #[a.eval p,a.eval q]).run P w=.ok v w' →
   R E g' { S with bm:=(f,k)::S.bm } a w'→bj (({ S with bm:=(f,k)::S.bm }:St).cx g' w') (.slice (some f) sh.length ys) v →
   ct P E o S (({ S with bm:=(f,k)::S.bm }:St).put o.dst (.slice (some f) sh.length ys)) a w:=fun f k ys v g' w' h1 h2 h3 =>
  ct.value (x:=v) (w':=w') (g':=g') (by rw[gI,h1];rfl) (h2.put hd h3)
 have first:∀(f:Nat) (ys:List (List V)),(S.eR f∨look f S.bm=some 0)→ys.length≤mx→kG (a.eval p)→EP w.heap g.m sh.length ys (a.eval q) →
   ys≠[]→ct P E o S (({ S with bm:=(f,ys.length)::S.bm }:St).put o.dst (.slice (some f) sh.length ys)) a w:=fun f ys hf hle h0 gQ cF=>by
  rcases gQ with⟨rfl,_⟩ | ⟨b,off,cap,l,hy,eP,hc,hl⟩
  ·exact absurd rfl cF
  ·have hlen:0<ys.length:=List.length_pos_iff.2 cF
   have km:=hl.len;have hr:=Iu (P:=P) (ty:=o.type) (w:=w) ht hi hz h0 (b:=⟨b,off,none⟩) (n:=ys.length) (cap:=cap) (l:=l) (by rw[eH];exact km) (fun j v hj=>by rw[kI,cell?_eq];exact hc j v hj) hlen (by omega) (qu _ hle)
   have Ce:l.length+(grownCap w ys.length 0 e-ys.length)*z.cells.size=grownCap w ys.length 0 e*sh.length:=by
    rw[km,nh,← Nat.add_mul];congr 1;have:=@grownCap_le w ys.length 0 e;omega
   obtain⟨g',h2,h3⟩:=hR.Is (w':=w.drew.alloc (.cells (l.toArray++Builtin.zeroCells z.cells (grownCap w ys.length 0 e-ys.length)) e)) (f:=f) rfl rfl rfl rfl (n:=sh.length) (ys:=ys) (l:=l) hlen
    (hf.imp (fun z=>z) fun h=>⟨0,h,hlen⟩) hl (fun j v hj=>by rw[Array.getElem?_append_left (by have:=eZ hj;simpa using this)];simpa using hj) (cap:=grownCap w ys.length 0 e) grownCap_le
    (by simp only[Array.size_append,Cd,List.size_toArray];omega)
   exact fin f _ ys _ g' _ (by rw[hy];exact hr) h2 h3
 have start:∀{b:V},kG (a.eval p)→S.ev y=some b→(match S.rows sh b with
   |some ys=>bif Nat.ble ys.length mx then some ({ S with bm:=(cf,ys.length)::S.bm }.put o.dst (.slice (some cf) sh.length ys)) else none
   |none=>none)=some S'→ct P E o S S' a w:=fun {b} h0 hy aj=>by
  split at aj
  ·rename_i ys kK
   cases hle:Nat.ble ys.length mx with
   |false=>simp[hle]at aj
   |true =>
    simp only[hle,cond_true]at aj;cases aj;have hle:=Nat.le_of_ble_eq_true hle;have gQ:=B9 hR (cZ hR hq hy) kK;by_cases cF:ys=[]
    ·subst cF
     obtain⟨base,cap,e1,_⟩:=Cb gQ;obtain⟨g',h2,h3,_⟩:=hR.ET hn;refine fin cf 0 [] _ g' w ?_ h2 (h3 _ _ h0);rw[e1];rcases h0 with h0 | ⟨a0,h0⟩
     ·rw[h0];exact wL ht hi none 0 0 (Nat.le_refl _) base cap
     ·rw[h0];exact wL ht hi (some a0) 0 0 (Nat.le_refl _) base cap
    ·exact first cf ys (.inl hn) hle h0 gQ cF
  ·cases aj
 simp only[VO.run]at aj;split at aj
 ·
  rename_i v hx hy;exact start (.inl (nV (cZ hR hp hx))) hy aj
 ·
  rename_i n v hx hy;exact start (rh (cZ hR hp hx)) hy aj
 ·
  rename_i f n es v hx hy;split at aj
  ·rename_i ys kK
   split at aj
   ·rename_i k hk
    have hk:look f S.bm=some k:=by
     cases EU:src==some f with
     |false=>simp[EU]at hk
     |true=>simpa [EU] using hk
    cases hc:(k==es.length&&(n==sh.length)&&Nat.ble (es.length+ys.length) mx) with
    |false=>simp[hc]at aj
    |true =>
     simp only[hc,cond_true]at aj;cases aj;simp only[Bool.and_eq_true,beq_iff_eq]at hc;obtain⟨⟨Iw,u7⟩,hle⟩:=hc;subst Iw;subst u7;have hle:=Nat.le_of_ble_eq_true hle;have gQ:=B9 hR (cZ hR hq hy) kK;have pN:=cZ hR hp hx;obtain⟨Og,tC⟩:fp w.heap g.m (.slice (some f) sh.length es) (a.eval p)∧uZ (S.cx g w) f sh.length es.length (a.eval p):=by
      generalize a.eval p=xx at pN;cases pN with
      |plain h ht=>exact⟨h,(ht f _ es rfl _ hk).2 rfl⟩
     by_cases cF:ys=[]
     ·subst cF
      obtain⟨base,cap,e1,_⟩:=Cb gQ;obtain⟨h2,h3⟩:=hR.again hk;obtain⟨bx,cx,e2,lU⟩:∃bx cx,a.eval p=.slice bx es.length cx∧es.length≤cx:=by
       rcases N8 Og with⟨h,base,cap,e⟩ | ⟨b,off,cap,l,e,eP,_⟩
       ·exact⟨base,cap,by rw[e,h];rfl,by simp[h]⟩
       ·exact⟨_,cap,e,eP⟩
      simp only[List.append_nil,List.length_nil,Nat.add_zero];refine fin f _ es (a.eval p) g w ?_ h2 (h3 _ _ pN);rw[e1,e2];exact wL ht hi bx es.length cx lU base cap
     ·rcases tC with⟨h0,e0⟩ | ⟨b,off,cap,c,et,hτ,e0,hm,hb,fX,nb,_⟩
      ·have:es=[]:=List.length_eq_zero_iff.1 h0
       subst this;simp only[List.length_nil,Nat.zero_add,List.nil_append]at hle ⊢;exact first f ys (.inr hk) hle e0 gQ cF
      ·rcases gQ with⟨rfl,_⟩ | ⟨b',off',nZ,l,u9,hcap',uk,hl⟩
       ·exact absurd rfl cF
       ·have hlen:0<ys.length:=List.length_pos_iff.2 cF
        have km:=hl.len;have EV:∃b off cap l,a.eval p=.slice (some ⟨b,off,none⟩) es.length cap∧es.length≤cap∧(∀(j:Nat) (y:Value),l[j]?=some y→cellAt w.heap b (off+j)=some y)∧jm w.heap g.m sh.length es l:=by
         rcases ER Og with⟨_,hex⟩ | ⟨mL,_⟩ | h
         ·rw[hex]at e0;cases e0
         ·subst mL
          exact⟨b,off,cap,[],e0,Nat.zero_le _,fun j y h=>by simp at h,⟨by simp,by simp,by simp⟩⟩
         ·exact h
        rcases EV with⟨bx,offx,capx,l0,hex,hcapx,lU,ti⟩
        ·rw[hex]at e0
         injection e0 with e1 e2 e3;injection e1 with e1;injection e1 with e4 e5;subst e4;subst e5;subst e3;have Cg:∀(j:Nat) (v:Value),l[j]?=some v→w.cell? ((⟨b',off',none⟩:Addr).add j)=some v:=fun j v hj=>by rw[kI,cell?_eq];exact uk j v hj
         by_cases Ae:es.length+ys.length≤capx
         ·have hr:=run_append_room (P:=P) (ty:=o.type) ht hi (l:=l) (by rw[eH];exact km) Cg Ae (cap:=nZ) hb (by rw[eH];exact fX) hl.xM
          rw[eH]at hr;obtain⟨g',h2,h3⟩:=hR.WT hk hτ hb hm nb (cap:=capx) rfl cF Ae fX ti lU hl rfl;exact fin f _ (es++ys) _ g' _ (by rw[hex,u9];exact hr) h2 h3
         ·have Ix:(es.length+ys.length)*i.bytes≤140737488355328:=qu _ hle
          have hr:=run_append_grow (P:=P) w t o.type e i z ht hi hz ⟨bx,offx,none⟩ es.length capx l0 (by rw[eH];exact ti.len) (fun j v hj=>by rw[kI,cell?_eq];exact lU j v hj)
           ⟨b',off',none⟩ ys.length nZ l (by rw[eH];exact km) Cg (by omega) (by omega) (growslice_fits (by omega) Ix)
          have Oh:=ti.append hl;have W0:(l0++l).length=(es.length+ys.length)*sh.length:=by rw[Oh.len];simp
          have Ce:(l0++l).length+(grownCap w (es.length+ys.length) capx e-(es.length+ys.length))*z.cells.size=grownCap w (es.length+ys.length) capx e*sh.length:=by
           rw[W0,nh,← Nat.add_mul];congr 1;have:=@grownCap_le w (es.length+ys.length) capx e;omega
          obtain⟨g',h2,h3⟩:=hR.Is (w':=w.drew.alloc (.cells (l0.toArray++l.toArray++Builtin.zeroCells z.cells (grownCap w (es.length+ys.length) capx e-(es.length+ys.length))) e)) (f:=f) rfl rfl rfl rfl
           (n:=sh.length) (ys:=es++ys) (l:=l0++l) (by simp;omega) (.inr ⟨_,hk,by simp;omega⟩) Oh
           (fun j v hj=>by rw[Array.getElem?_append_left (by have:=eZ hj;simpa using this)];simpa using hj) (cap:=grownCap w (es.length+ys.length) capx e) (by rw[List.length_append];exact grownCap_le)
           (by simp only[Array.size_append,Cd,List.size_toArray];simp at Ce;omega)
          rw[List.length_append]at h2 h3;exact fin f _ (es++ys) _ g' _ (by rw[hex,u9];exact hr) h2 h3
   ·cases aj
  ·cases aj
 ·cases aj
end
end Go.Vm

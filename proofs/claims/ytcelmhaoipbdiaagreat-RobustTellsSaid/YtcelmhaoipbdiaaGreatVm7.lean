/- The value machine, 7: append, literals, stores, make, blocks that calls share. -/
import Derived.Test.YtcelmhaoipbdiaaGreatVm6
namespace Go.Vm
set_option linter.all false
section
variable {P:Program} {E:Entry} {g g':Gh} {S S':St} {a:Act} {w w':World} {T':List (Nat×Nat)} {N' B:Nat}
theorem HM{h:Array Obj}{m:Nat→Nat}{n:Nat}{ys:List (List V)}{x:Value}(hr:HI h m n ys x):∃base cap,x=.slice base ys.length cap∧(ys≠[]→∃b off,base=some ⟨b,off,none⟩):=by
 rcases hr with⟨rfl,base,cap,rfl⟩ | ⟨b,off,cap,l,rfl,_⟩
 ·exact⟨base,cap,rfl,fun h=>absurd rfl h⟩
 ·exact⟨_,cap,rfl,fun _=>⟨b,off,rfl⟩⟩
theorem BA{t ty e:TypeId}{i:TypeInfo}(ht:P.underlying t=some (.slice e))(hi:P.info? e=some i)(base:Option Addr)(w6 zT:Nat)(hle:w6≤zT)(HN:Option Addr)(cap:Nat) :
  (Builtin.append_ #[t,t] ty #[.slice base w6 zT,.slice HN 0 cap]).run P w=.ok (.slice base w6 zT) w:=by
 have hu:=jC (P:=P) (w:=w) ht;cases HN<;>cases base<;>simp[Builtin.append_,hu,sizeOf,typeInfo,hi,Builtin.lenOf,hle,Builtin.firstCells,loadCells,loadCellsFrom,storeCells]
theorem run_append_room{t ty e:TypeId}{i:TypeInfo}(ht:P.underlying t=some (.slice e))(hi:P.info? e=some i){b off w6 zT:Nat}{x:Addr}{n cap:Nat}{l:List Value}(hl:l.length=n*i.size)
  (hx:∀j v,l[j]?=some v→w.cell? (x.add j)=some v) (hle:w6+n≤zT) {c:Array Value} {et:TypeId} (hb:w.heap[b]?=some (.cells c et (0,0))) (fZ:off+zT*i.size≤c.size) (h1:∀v∈l,v.oneCell'=true) :
  (Builtin.append_ #[t,t] ty #[.slice (some ⟨b,off,none⟩) w6 zT,.slice (some x) n cap]).run P w =
   .ok (.slice (some ⟨b,off,none⟩) (w6+n) zT) (w.setRow b (c.toList.take (off+w6*i.size)++l++c.toList.drop (off+w6*i.size+l.length)).toArray):=by
 have hu:=jC (P:=P) (w:=w) ht;have hf:=run_firstCells_some (P:=P) w i.size n x n cap l hl hx;have h2:(w6+n)*i.size≤zT*i.size:=rM _ hle;rw[qC]at h2;have fm:=run_storeCells_at P b (off+w6*i.size) et l 0 c w hb (by omega) h1
 simp only[xX]at fm;have hz:(match P.underlying t with|some (.int _)=>true|_=>false)=false:=by rw[ht]
 simp[Builtin.append_,hu,sizeOf,typeInfo,hi,Builtin.lenOf,hle,hf,lg,fm]
theorem grownCap_le{w:World}{Xe l7:Nat}{e:TypeId}:Xe≤grownCap w Xe l7 e:=by
 simp only[grownCap,Question.cut];omega
theorem HO(z:Array Value)(n:Nat):(Builtin.zeroCells z n).size=n*z.size:=by simp[Builtin.zeroCells]
structure Xf(P:Program)(e:TypeId)(n:Nat):Prop where
 info:∃i z,P.info? e=some i∧i.zero=some z∧i.size=n∧z.cells.size=n∧i.bytes≤32768
 pos:0<n
theorem PR{t ty e:TypeId}{i:TypeInfo}{z x:Value}(ht:P.underlying t=some (.slice e))(hi:P.info? e=some i)(hz:i.zero=some z)(h0:mr x){b:Addr}{n cap:Nat}{l:List Value}(hl:l.length=n*i.size)
  (hx:∀j v,l[j]?=some v→w.cell? (b.add j)=some v) (hn:0<n) (hle:n≤140737488355328) (tI:n*i.bytes≤140737488355328) :
  (Builtin.append_ #[t,t] ty #[x,.slice (some b) n cap]).run P w =
   .ok (.slice (some ⟨w.heap.size,0,none⟩) n (grownCap w n 0 e)) (w.drew.alloc (.cells (l.toArray++Builtin.zeroCells z.cells (grownCap w n 0 e-n)) e)):=by
 have aiY:n*i.bytes≤281474976710656:=kL tI (by decide)
 rcases h0 with rfl | ⟨a0,rfl⟩
 ·exact run_append_nil (P:=P) w t ty e i z ht hi hz b n cap l hl hx hn (by omega) aiY
 ·have hg:=run_append_grow (P:=P) w t ty e i z ht hi hz a0 0 0 [] (by simp) (fun j v hj=>by simp at hj)
   b n cap l hl hx (by omega) (by omega) (growslice_fits (by omega) (by rw[kz];exact tI))
  simpa using hg
theorem aiZ{o:Oper}{t e:TypeId}{cn mx:Nat}{src:Option Nat}{sh:Sh}{p q:Operand}{x y:bA}{C:bD}(hmx:mx≤140737488355328∧∀i,P.info? e=some i→mx*i.bytes≤140737488355328)(ho:o.op=.call ⟨.builtin .append,#[p,q],#[t,t]⟩)(ht:P.underlying t=some (.slice e))(he:Xf P e sh.length)
  (hp:bZ p x=true) (hq:bZ q y=true) (hn:S.fb cn) (hR:R E g S a w) (hd:∀d,o.dst=some d→d<E.nt)
  (ah:VO.run C o.dst S (.app cn src sh mx x y)=some S'):ct P E o S S' a w:=by
 obtain⟨⟨i,z,hi,hz,eH,pE,_⟩,gX⟩:=he;obtain⟨axZ,PS⟩:=hmx;have PS:=PS i hi;have tI:∀n,n≤mx→n*i.bytes≤140737488355328:=fun n h=>kL (rM _ h) PS;have fQ:∀w,(execOp a.eval o).run P w=((Builtin.append_ #[t,t] o.type #[a.eval p,a.eval q]).run P w).andThen fun v w=>.ok (.value v) w:=fun w=>by
  simp[execOp,ho,resolve,invoke,builtin]
 have fin:∀(f k:Nat) (ys:List (List V)) (v:Value) (g':Gh) (w':World),(Builtin.append_ #[t,t] o.type #[a.eval p,a.eval q]).run P w=.ok v w' →
   R E g' { S with bl:=(f,k)::S.bl } a w'→bf (({ S with bl:=(f,k)::S.bl }:St).cx g' w') (.slice (some f) sh.length ys) v →
   ct P E o S (({ S with bl:=(f,k)::S.bl }:St).put o.dst (.slice (some f) sh.length ys)) a w:=fun f k ys v g' w' h1 h2 h3 =>
  ct.value (x:=v) (w':=w') (g':=g') (by rw[fQ,h1];rfl) (h2.put hd h3)
 have first:∀(f:Nat) (ys:List (List V)),(S.fb f∨look f S.bl=some 0)→ys.length≤mx→mr (a.eval p)→HI w.heap g.m sh.length ys (a.eval q) →
   ys≠[]→ct P E o S (({ S with bl:=(f,ys.length)::S.bl }:St).put o.dst (.slice (some f) sh.length ys)) a w:=fun f ys hf hle h0 gO cq=>by
  rcases gO with⟨rfl,_⟩ | ⟨b,off,cap,l,hy,eK,hc,hl⟩
  ·exact absurd rfl cq
  ·have hlen:0<ys.length:=CP.2 cq
   have mb:=hl.len;have hr:=PR (P:=P) (ty:=o.type) (w:=w) ht hi hz h0 (b:=⟨b,off,none⟩) (n:=ys.length) (cap:=cap) (l:=l) (by rw[eH];exact mb) (fun j v hj=>by rw[lg,cell?_eq];exact hc j v hj) hlen (by omega) (tI _ hle)
   have HP:l.length+(grownCap w ys.length 0 e-ys.length)*z.cells.size=grownCap w ys.length 0 e*sh.length:=by
    rw[mb,pE,← qC];congr 1;have:=@grownCap_le w ys.length 0 e;omega
   obtain⟨g',h2,h3⟩:=hR.PO (w':=w.drew.alloc (.cells (l.toArray++Builtin.zeroCells z.cells (grownCap w ys.length 0 e-ys.length)) e)) (f:=f) rfl rfl rfl rfl (n:=sh.length) (ys:=ys) (l:=l) hlen
    (hf.imp (fun z=>z) fun h=>⟨0,h,hlen⟩) hl (fun j v hj=>by rw[Ba (by have:=fa hj;simpa using this)];simpa using hj) (cap:=grownCap w ys.length 0 e) grownCap_le
    (by simp only[Ha,HO,EO];omega)
   exact fin f _ ys _ g' _ (by rw[hy];exact hr) h2 h3
 have start:∀{b:V},mr (a.eval p)→S.ev y=some b→(match S.rows sh b with
   |some ys=>bif Nat.ble ys.length mx then some ({ S with bl:=(cn,ys.length)::S.bl }.put o.dst (.slice (some cn) sh.length ys)) else none
   |none=>none)=some S'→ct P E o S S' a w:=fun {b} h0 hy ah=>by
  split at ah
  ·rename_i ys kP
   cases hle:Nat.ble ys.length mx with
   |false=>simp[hle]at ah
   |true =>
    simp only[hle,bM]at ah;cases ah;have hle:=jk hle;have gO:=Lh hR (c9 hR hq hy) kP;by_cases cq:ys=[]
    ·subst cq
     obtain⟨base,cap,e1,_⟩:=HM gO;obtain⟨g',h2,h3,_⟩:=hR.Lj hn;refine fin cn 0 [] _ g' w ?_ h2 (h3 _ _ h0);rw[e1];rcases h0 with h0 | ⟨a0,h0⟩
     ·rw[h0];exact BA ht hi none 0 0 (bY _) base cap
     ·rw[h0];exact BA ht hi (some a0) 0 0 (bY _) base cap
    ·exact first cn ys (.inl hn) hle h0 gO cq
  ·cases ah
 simp only[VO.run]at ah;split at ah
 ·
  rename_i v hx hy;exact start (.inl (pB (c9 hR hp hx))) hy ah
 ·
  rename_i n v hx hy;exact start (uH (c9 hR hp hx)) hy ah
 ·
  rename_i f n es v hx hy;split at ah
  ·rename_i ys kP
   split at ah
   ·rename_i k hk
    have hk:look f S.bl=some k:=by
     cases Ll:src==some f with
     |false=>simp[Ll]at hk
     |true=>simpa [Ll] using hk
    cases hc:(k==es.length&&(n==sh.length)&&Nat.ble (es.length+ys.length) mx) with
    |false=>simp[hc]at ah
    |true =>
     simp only[hc,bM]at ah;cases ah;simp only[b8,eg]at hc;obtain⟨⟨hk1,zU⟩,hle⟩:=hc;subst hk1;subst zU;have hle:=jk hle;have gO:=Lh hR (c9 hR hq hy) kP;have rY:=c9 hR hp hx;obtain⟨Xg,tH⟩:fF w.heap g.m (.slice (some f) sh.length es) (a.eval p)∧zN (S.cx g w) f sh.length es.length (a.eval p):=by
      generalize a.eval p=xx at rY;cases rY with
      |plain h ht=>exact⟨h,(ht f _ es rfl _ hk).2 rfl⟩
     by_cases cq:ys=[]
     ·subst cq
      obtain⟨base,cap,e1,_⟩:=HM gO;obtain⟨h2,h3⟩:=hR.again hk;obtain⟨bx,cx,e2,ni⟩:∃bx cx,a.eval p=.slice bx es.length cx∧es.length≤cx:=by
       rcases W9 Xg with⟨h,base,cap,e⟩ | ⟨b,off,cap,l,e,eK,_⟩
       ·exact⟨base,cap,by rw[e,h];rfl,by simp[h]⟩
       ·exact⟨_,cap,e,eK⟩
      simp only[Hh,uy,xX];refine fin f _ es (a.eval p) g w ?_ h2 (h3 _ _ rY);rw[e1,e2];exact BA ht hi bx es.length cx ni base cap
     ·rcases tH with⟨h0,e0⟩ | ⟨b,off,cap,c,et,hτ,e0,hm,hb,fZ,jS,_⟩
      ·have:es=[]:=a8.1 h0
       subst this;simp only[uy,kz,EM]at hle ⊢;exact first f ys (.inr hk) hle e0 gO cq
      ·rcases gO with⟨rfl,_⟩ | ⟨b',off',sU,l,zV,hcap',yo,hl⟩
       ·exact absurd rfl cq
       ·have hlen:0<ys.length:=CP.2 cq
        have mb:=hl.len;have EZ:∃b off cap l,a.eval p=.slice (some ⟨b,off,none⟩) es.length cap∧es.length≤cap∧(∀(j:Nat) (y:Value),l[j]?=some y→cellAt w.heap b (off+j)=some y)∧kD w.heap g.m sh.length es l:=by
         rcases Lf Xg with⟨_,hex⟩ | ⟨mU,_⟩ | h
         ·rw[hex]at e0;cases e0
         ·subst mU
          exact⟨b,off,cap,[],e0,xZ _,fun j y h=>by simp at h,⟨by simp,by simp,by simp⟩⟩
         ·exact h
        rcases EZ with⟨bx,offx,capx,l0,hex,hcapx,ni,w7⟩
        ·rw[hex]at e0
         injection e0 with e1 e2 e3;injection e1 with e1;injection e1 with e4 e5;subst e4;subst e5;subst e3;have HR:∀(j:Nat) (v:Value),l[j]?=some v→w.cell? ((⟨b',off',none⟩:Addr).add j)=some v:=fun j v hj=>by rw[lg,cell?_eq];exact yo j v hj
         by_cases E0:es.length+ys.length≤capx
         ·have hr:=run_append_room (P:=P) (ty:=o.type) ht hi (l:=l) (by rw[eH];exact mb) HR E0 (cap:=sU) hb (by rw[eH];exact fZ) hl.C5
          rw[eH]at hr;obtain⟨g',h2,h3⟩:=hR.aiU hk hτ hb hm jS (cap:=capx) rfl cq E0 fZ w7 ni hl rfl;exact fin f _ (es++ys) _ g' _ (by rw[hex,zV];exact hr) h2 h3
         ·have PT:(es.length+ys.length)*i.bytes≤140737488355328:=tI _ hle
          have hr:=run_append_grow (P:=P) w t o.type e i z ht hi hz ⟨bx,offx,none⟩ es.length capx l0 (by rw[eH];exact w7.len) (fun j v hj=>by rw[lg,cell?_eq];exact ni j v hj)
           ⟨b',off',none⟩ ys.length sU l (by rw[eH];exact mb) HR (by omega) (by omega) (growslice_fits (by omega) PT)
          have Xh:=w7.append hl;have ai2:(l0++l).length=(es.length+ys.length)*sh.length:=by rw[Xh.len];simp
          have HP:(l0++l).length+(grownCap w (es.length+ys.length) capx e-(es.length+ys.length))*z.cells.size=grownCap w (es.length+ys.length) capx e*sh.length:=by
           rw[ai2,pE,← qC];congr 1;have:=@grownCap_le w (es.length+ys.length) capx e;omega
          obtain⟨g',h2,h3⟩:=hR.PO (w':=w.drew.alloc (.cells (l0.toArray++l.toArray++Builtin.zeroCells z.cells (grownCap w (es.length+ys.length) capx e-(es.length+ys.length))) e)) (f:=f) rfl rfl rfl rfl
           (n:=sh.length) (ys:=es++ys) (l:=l0++l) (by simp;omega) (.inr ⟨_,hk,by simp;omega⟩) Xh
           (fun j v hj=>by rw[Ba (by have:=fa hj;simpa using this)];simpa using hj) (cap:=grownCap w (es.length+ys.length) capx e) (by rw[oG];exact grownCap_le)
           (by simp only[Ha,HO,EO];simp at HP;omega)
          rw[oG]at h2 h3;exact fin f _ (es++ys) _ g' _ (by rw[hex,zV];exact hr) h2 h3
   ·cases ah
  ·cases ah
 ·cases ah
end
end Go.Vm

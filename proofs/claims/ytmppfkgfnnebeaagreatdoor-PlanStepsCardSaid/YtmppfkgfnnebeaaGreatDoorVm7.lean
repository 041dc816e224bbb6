/- The value machine, 7: append, literals, stores, make, blocks that calls share. -/
import Derived.Test.YtmppfkgfnnebeaaGreatDoorVm6
namespace Go.Vm
set_option linter.all false
section
variable {P:Program} {E:Entry} {g g':Gh} {S S':St} {a:Act} {w w':World} {T':List (Nat×Nat)} {N' B:Nat}
theorem Hr{h:Array Obj}{m:Nat→Nat}{n:Nat}{ys:List (List V)}{x:Value}(hr:Hm h m n ys x):∃base cap,x=.slice base ys.length cap∧(ys≠[]→∃b off,base=some ⟨b,off,none⟩):=by
 rcases hr with⟨rfl,base,cap,rfl⟩ | ⟨b,off,cap,l,rfl,_⟩
 ·exact⟨base,cap,rfl,fun h=>absurd rfl h⟩
 ·exact⟨_,cap,rfl,fun _=>⟨b,off,rfl⟩⟩
theorem Bf{t ty e:TypeId}{i:TypeInfo}(ht:P.underlying t=some (.slice e))(hi:P.info? e=some i)(base:Option Addr)(wX zG:Nat)(hle:wX≤zG)(Hs:Option Addr)(cap:Nat) :
  (Builtin.append_ #[t,t] ty #[.slice base wX zG,.slice Hs 0 cap]).run P w=.ok (.slice base wX zG) w:=by
 have hu:=ji (P:=P) (w:=w) ht;cases Hs<;>cases base<;>simp[Builtin.append_,hu,sizeOf,typeInfo,hi,Builtin.lenOf,hle,Builtin.firstCells,loadCells,loadCellsFrom,storeCells]
theorem run_append_room{t ty e:TypeId}{i:TypeInfo}(ht:P.underlying t=some (.slice e))(hi:P.info? e=some i){b off wX zG:Nat}{x:Addr}{n cap:Nat}{l:List Value}(hl:l.length=n*i.size)
  (hx:∀j v,l[j]?=some v→w.cell? (x.add j)=some v) (hle:wX+n≤zG) {c:Array Value} {et:TypeId} (hb:w.heap[b]?=some (.cells c et (0,0))) (fC:off+zG*i.size≤c.size) (h1:∀v∈l,v.oneCell'=true) :
  (Builtin.append_ #[t,t] ty #[.slice (some ⟨b,off,none⟩) wX zG,.slice (some x) n cap]).run P w =
   .ok (.slice (some ⟨b,off,none⟩) (wX+n) zG) (w.setRow b (c.toList.take (off+wX*i.size)++l++c.toList.drop (off+wX*i.size+l.length)).toArray):=by
 have hu:=ji (P:=P) (w:=w) ht;have hf:=run_firstCells_some (P:=P) w i.size n x n cap l hl hx;have h2:(wX+n)*i.size≤zG*i.size:=tf _ hle;rw[qi]at h2;have ez:=run_storeCells_at P b (off+wX*i.size) et l 0 c w hb (by omega) h1
 simp only[wH]at ez;have hz:(match P.underlying t with|some (.int _)=>true|_=>false)=false:=by rw[ht]
 simp[Builtin.append_,hu,sizeOf,typeInfo,hi,Builtin.lenOf,hle,hf,kB,ez]
theorem grownCap_le{w:World}{Wu kA:Nat}{e:TypeId}:Wu≤grownCap w Wu kA e:=by
 simp only[grownCap,Question.cut];omega
theorem Ht(z:Array Value)(n:Nat):(Builtin.zeroCells z n).size=n*z.size:=by simp[Builtin.zeroCells]
structure OV(P:Program)(e:TypeId)(n:Nat):Prop where
 info:∃i z,P.info? e=some i∧i.zero=some z∧i.size=n∧z.cells.size=n∧i.bytes≤32768
 pos:0<n
theorem OW{t ty e:TypeId}{i:TypeInfo}{z x:Value}(ht:P.underlying t=some (.slice e))(hi:P.info? e=some i)(hz:i.zero=some z)(h0:lL x){b:Addr}{n cap:Nat}{l:List Value}(hl:l.length=n*i.size)
  (hx:∀j v,l[j]?=some v→w.cell? (b.add j)=some v) (hn:0<n) (hle:n≤140737488355328) (tu:n*i.bytes≤140737488355328) :
  (Builtin.append_ #[t,t] ty #[x,.slice (some b) n cap]).run P w =
   .ok (.slice (some ⟨w.heap.size,0,none⟩) n (grownCap w n 0 e)) (w.drew.alloc (.cells (l.toArray++Builtin.zeroCells z.cells (grownCap w n 0 e-n)) e)):=by
 have aie:n*i.bytes≤281474976710656:=iQ tu (by decide)
 rcases h0 with rfl | ⟨a0,rfl⟩
 ·exact run_append_nil (P:=P) w t ty e i z ht hi hz b n cap l hl hx hn (by omega) aie
 ·have hg:=run_append_grow (P:=P) w t ty e i z ht hi hz a0 0 0 [] (by simp) (fun j v hj=>by simp at hj)
   b n cap l hl hx (by omega) (by omega) (growslice_fits (by omega) (by rw[jV];exact tu))
  simpa using hg
theorem aif{o:Oper}{t e:TypeId}{cj mx:Nat}{src oy:Option Nat}{sh:Sh}{p q:Operand}{x y:bw}{C:bD}(hmx:mx≤140737488355328∧∀i,P.info? e=some i→mx*i.bytes≤140737488355328)(ho:o.op=.call ⟨.builtin .append,#[p,q],#[t,t]⟩)(ht:P.underlying t=some (.slice e))(he:OV P e sh.length)
  (hp:bU p x=true) (hq:bU q y=true) (hn:S.eN cj) (hR:R E g S a w) (hd:∀d,o.dst=some d→d<E.nt)
  (hrun:VO.run C o.dst S (.app cj src oy sh mx x y)=some S'):ch P E o S S' a w:=by
 obtain⟨⟨i,z,hi,hz,eg,o0,_⟩,gy⟩:=he;obtain⟨awN,OX⟩:=hmx;have OX:=OX i hi;have tu:∀n,n≤mx→n*i.bytes≤140737488355328:=fun n h=>iQ (tf _ h) OX;have fq:∀w,(execOp a.eval o).run P w=((Builtin.append_ #[t,t] o.type #[a.eval p,a.eval q]).run P w).andThen fun v w=>.ok (.value v) w:=fun w=>by
  simp[execOp,ho,resolve,invoke,builtin]
 have fin:∀(f k:Nat) (ys:List (List V)) (v:Value) (g':Gh) (w':World),(Builtin.append_ #[t,t] o.type #[a.eval p,a.eval q]).run P w=.ok v w' →
   R E g' { S with bj:=(f,k)::S.bj } a w'→bb (({ S with bj:=(f,k)::S.bj }:St).cx g' w') (.slice (some f) sh.length ys) v →
   ch P E o S (({ S with bj:=(f,k)::S.bj }:St).put o.dst (.slice (some f) sh.length ys)) a w:=fun f k ys v g' w' h1 h2 h3 =>
  ch.value (x:=v) (w':=w') (g':=g') (by rw[fq,h1];rfl) (h2.put hd h3)
 have first:∀(f:Nat) (ys:List (List V)),(S.eN f∨look f S.bj=some 0)→ys.length≤mx→lL (a.eval p)→Hm w.heap g.m sh.length ys (a.eval q) →
   ys≠[]→ch P E o S (({ S with bj:=(f,ys.length)::S.bj }:St).put o.dst (.slice (some f) sh.length ys)) a w:=fun f ys hf hle h0 gd cf=>by
  rcases gd with⟨rfl,_⟩ | ⟨b,off,cap,l,hy,eo,hc,hl⟩
  ·exact absurd rfl cf
  ·have hlen:0<ys.length:=Ck.2 cf
   have lq:=hl.len;have hr:=OW (P:=P) (ty:=o.type) (w:=w) ht hi hz h0 (b:=⟨b,off,none⟩) (n:=ys.length) (cap:=cap) (l:=l) (by rw[eg];exact lq) (fun j v hj=>by rw[kB,cell?_eq];exact hc j v hj) hlen (by omega) (tu _ hle)
   have Hu:l.length+(grownCap w ys.length 0 e-ys.length)*z.cells.size=grownCap w ys.length 0 e*sh.length:=by
    rw[lq,o0,← qi];congr 1;have:=@grownCap_le w ys.length 0 e;omega
   obtain⟨g',h2,h3⟩:=hR.OT (w':=w.drew.alloc (.cells (l.toArray++Builtin.zeroCells z.cells (grownCap w ys.length 0 e-ys.length)) e)) (f:=f) rfl rfl rfl rfl (n:=sh.length) (ys:=ys) (l:=l) hlen
    (hf.imp (fun z=>z) fun h=>⟨0,h,hlen⟩) hl (fun j v hj=>by rw[AT (by have:=eQ hj;simpa using this)];simpa using hj) (cap:=grownCap w ys.length 0 e) grownCap_le
    (by simp only[GG,Ht,Ej];omega)
   exact fin f _ ys _ g' _ (by rw[hy];exact hr) h2 h3
 have start:∀{b:V},lL (a.eval p)→S.ev y=some b→(match S.iR oy sh b with
   |some ys=>bif Nat.ble ys.length mx then some ({ S with bj:=(cj,ys.length)::S.bj }.put o.dst (.slice (some cj) sh.length ys)) else none
   |none=>none)=some S'→ch P E o S S' a w:=fun {b} h0 hy hrun=>by
  split at hrun
  ·rename_i ys kg
   cases hle:Nat.ble ys.length mx with
   |false=>simp[hle]at hrun
   |true =>
    simp only[hle,bG]at hrun;cases hrun;have hle:=il hle;have gd:=Hq hR (cY hR hq hy) kg;by_cases cf:ys=[]
    ·subst cf
     obtain⟨base,cap,e1,_⟩:=Hr gd;obtain⟨g',h2,h3,_⟩:=hR.KP hn;refine fin cj 0 [] _ g' w ?_ h2 (h3 _ _ h0);rw[e1];rcases h0 with h0 | ⟨a0,h0⟩
     ·rw[h0];exact Bf ht hi none 0 0 (bV _) base cap
     ·rw[h0];exact Bf ht hi (some a0) 0 0 (bV _) base cap
    ·exact first cj ys (.inl hn) hle h0 gd cf
  ·cases hrun
 simp only[VO.run]at hrun;split at hrun
 ·
  rename_i v hx hy;exact start (.inl (oV (cY hR hp hx))) hy hrun
 ·
  rename_i n v hx hy;exact start (uk (cY hR hp hx)) hy hrun
 ·
  rename_i f n es v hx hy;split at hrun
  ·rename_i ys kg
   split at hrun
   ·rename_i k hk
    have hk:look f S.bj=some k:=by
     cases KQ:src==some f with
     |false=>simp[KQ]at hk
     |true=>simpa [KQ] using hk
    cases hc:(k==es.length&&(n==sh.length)&&Nat.ble (es.length+ys.length) mx) with
    |false=>simp[hc]at hrun
    |true =>
     simp only[hc,bG]at hrun;cases hrun;simp only[bS,dO]at hc;obtain⟨⟨hk1,uo⟩,hle⟩:=hc;subst hk1;subst uo;have hle:=il hle;have gd:=Hq hR (cY hR hq hy) kg;have qY:=cY hR hp hx;obtain⟨Wv,tr⟩:fg w.heap g.m (.slice (some f) sh.length es) (a.eval p)∧zA (S.cx g w) f sh.length es.length (a.eval p):=by
      generalize a.eval p=xx at qY;cases qY with
      |plain h ht=>exact⟨h,(ht f _ es rfl _ hk).2 rfl⟩
     by_cases cf:ys=[]
     ·subst cf
      obtain⟨base,cap,e1,_⟩:=Hr gd;obtain⟨h2,h3⟩:=hR.again hk;obtain⟨bx,cx,e2,mJ⟩:∃bx cx,a.eval p=.slice bx es.length cx∧es.length≤cx:=by
       rcases Wo Wv with⟨h,base,cap,e⟩ | ⟨b,off,cap,l,e,eo,_⟩
       ·exact⟨base,cap,by rw[e,h];rfl,by simp[h]⟩
       ·exact⟨_,cap,e,eo⟩
      simp only[Eb,tc,wH];refine fin f _ es (a.eval p) g w ?_ h2 (h3 _ _ qY);rw[e1,e2];exact Bf ht hi bx es.length cx mJ base cap
     ·rcases tr with⟨h0,e0⟩ | ⟨b,off,cap,c,et,hτ,e0,hm,hb,fC,jt,_⟩
      ·have:es=[]:=oo.1 h0
       subst this;simp only[tc,jV,Eg]at hle ⊢;exact first f ys (.inr hk) hle e0 gd cf
      ·rcases gd with⟨rfl,_⟩ | ⟨b',off',sy,l,wY,hcap',qV,hl⟩
       ·exact absurd rfl cf
       ·have hlen:0<ys.length:=Ck.2 cf
        have lq:=hl.len;have KR:∃b off cap l,a.eval p=.slice (some ⟨b,off,none⟩) es.length cap∧es.length≤cap∧(∀(j:Nat) (y:Value),l[j]?=some y→cellAt w.heap b (off+j)=some y)∧jX w.heap g.m sh.length es l:=by
         rcases KM Wv with⟨_,hex⟩ | ⟨mw,_⟩ | h
         ·rw[hex]at e0;cases e0
         ·subst mw
          exact⟨b,off,cap,[],e0,y7 _,fun j y h=>by simp at h,⟨by simp,by simp,by simp⟩⟩
         ·exact h
        rcases KR with⟨bx,offx,capx,l0,hex,hcapx,mJ,wZ⟩
        ·rw[hex]at e0
         injection e0 with e1 e2 e3;injection e1 with e1;injection e1 with e4 e5;subst e4;subst e5;subst e3;have Hw:∀(j:Nat) (v:Value),l[j]?=some v→w.cell? ((⟨b',off',none⟩:Addr).add j)=some v:=fun j v hj=>by rw[kB,cell?_eq];exact qV j v hj
         by_cases Ex:es.length+ys.length≤capx
         ·have hr:=run_append_room (P:=P) (ty:=o.type) ht hi (l:=l) (by rw[eg];exact lq) Hw Ex (cap:=sy) hb (by rw[eg];exact fC) hl.CF
          rw[eg]at hr;obtain⟨g',h2,h3⟩:=hR.aia hk hτ hb hm jt (cap:=capx) rfl cf Ex fC wZ mJ hl rfl;exact fin f _ (es++ys) _ g' _ (by rw[hex,wY];exact hr) h2 h3
         ·have OY:(es.length+ys.length)*i.bytes≤140737488355328:=tu _ hle
          have hr:=run_append_grow (P:=P) w t o.type e i z ht hi hz ⟨bx,offx,none⟩ es.length capx l0 (by rw[eg];exact wZ.len) (fun j v hj=>by rw[kB,cell?_eq];exact mJ j v hj)
           ⟨b',off',none⟩ ys.length sy l (by rw[eg];exact lq) Hw (by omega) (by omega) (growslice_fits (by omega) OY)
          have Ww:=wZ.append hl;have aij:(l0++l).length=(es.length+ys.length)*sh.length:=by rw[Ww.len];simp
          have Hu:(l0++l).length+(grownCap w (es.length+ys.length) capx e-(es.length+ys.length))*z.cells.size=grownCap w (es.length+ys.length) capx e*sh.length:=by
           rw[aij,o0,← qi];congr 1;have:=@grownCap_le w (es.length+ys.length) capx e;omega
          obtain⟨g',h2,h3⟩:=hR.OT (w':=w.drew.alloc (.cells (l0.toArray++l.toArray++Builtin.zeroCells z.cells (grownCap w (es.length+ys.length) capx e-(es.length+ys.length))) e)) (f:=f) rfl rfl rfl rfl
           (n:=sh.length) (ys:=es++ys) (l:=l0++l) (by simp;omega) (.inr ⟨_,hk,by simp;omega⟩) Ww
           (fun j v hj=>by rw[AT (by have:=eQ hj;simpa using this)];simpa using hj) (cap:=grownCap w (es.length+ys.length) capx e) (by rw[m9];exact grownCap_le)
           (by simp only[GG,Ht,Ej];simp at Hu;omega)
          rw[m9]at h2 h3;exact fin f _ (es++ys) _ g' _ (by rw[hex,wY];exact hr) h2 h3
   ·cases hrun
  ·cases hrun
 ·cases hrun
end
end Go.Vm

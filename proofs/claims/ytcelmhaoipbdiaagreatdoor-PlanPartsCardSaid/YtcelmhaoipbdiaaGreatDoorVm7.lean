/- The value machine, 7: append, literals, stores, make, blocks that calls share. -/
import Derived.Test.YtcelmhaoipbdiaaGreatDoorVm6
namespace Go.Vm
set_option linter.all false
section
variable {P:Program} {E:Entry} {g g':Gh} {S S':St} {a:Act} {w w':World} {T':List (Nat×Nat)} {N' B:Nat}
theorem Fs{h:Array Obj}{m:Nat→Nat}{n:Nat}{ys:List (List V)}{x:Value}(hr:Fm h m n ys x):∃base cap,x=.slice base ys.length cap∧(ys≠[]→∃b off,base=some ⟨b,off,none⟩):=by
 rcases hr with⟨rfl,base,cap,rfl⟩ | ⟨b,off,cap,l,rfl,_⟩
 ·exact⟨base,cap,rfl,fun h=>absurd rfl h⟩
 ·exact⟨_,cap,rfl,fun _=>⟨b,off,rfl⟩⟩
theorem zR{t ty e:TypeId}{i:TypeInfo}(ht:P.underlying t=some (.slice e))(hi:P.info? e=some i)(base:Option Addr)(vt xE:Nat)(hle:vt≤xE)(Ft:Option Addr)(cap:Nat) :
  (Builtin.append_ #[t,t] ty #[.slice base vt xE,.slice Ft 0 cap]).run P w=.ok (.slice base vt xE) w:=by
 have hu:=iN (P:=P) (w:=w) ht;cases Ft<;>cases base<;>simp[Builtin.append_,hu,sizeOf,typeInfo,hi,Builtin.lenOf,hle,Builtin.firstCells,loadCells,loadCellsFrom,storeCells]
theorem run_append_room{t ty e:TypeId}{i:TypeInfo}(ht:P.underlying t=some (.slice e))(hi:P.info? e=some i){b off vt xE:Nat}{x:Addr}{n cap:Nat}{l:List Value}(hl:l.length=n*i.size)
  (hx:∀j v,l[j]?=some v→w.cell? (x.add j)=some v) (hle:vt+n≤xE) {c:Array Value} {et:TypeId} (hb:w.heap[b]?=some (.cells c et (0,0))) (fu:off+xE*i.size≤c.size) (h1:∀v∈l,v.oneCell'=true) :
  (Builtin.append_ #[t,t] ty #[.slice (some ⟨b,off,none⟩) vt xE,.slice (some x) n cap]).run P w =
   .ok (.slice (some ⟨b,off,none⟩) (vt+n) xE) (w.setRow b (c.toList.take (off+vt*i.size)++l++c.toList.drop (off+vt*i.size+l.length)).toArray):=by
 have hu:=iN (P:=P) (w:=w) ht;have hf:=run_firstCells_some (P:=P) w i.size n x n cap l hl hx;have h2:(vt+n)*i.size≤xE*i.size:=rI _ hle;rw[px]at h2;have hZ:=run_storeCells_at P b (off+vt*i.size) et l 0 c w hb (by omega) h1
 simp only[wE]at hZ;have hz:(match P.underlying t with|some (.int _)=>true|_=>false)=false:=by rw[ht]
 simp[Builtin.append_,hu,sizeOf,typeInfo,hi,Builtin.lenOf,hle,hf,jX,hZ]
theorem grownCap_le{w:World}{Tk kI:Nat}{e:TypeId}:Tk≤grownCap w Tk kI e:=by
 simp only[grownCap,Question.cut];omega
theorem Fu(z:Array Value)(n:Nat):(Builtin.zeroCells z n).size=n*z.size:=by simp[Builtin.zeroCells]
structure Tl(P:Program)(e:TypeId)(n:Nat):Prop where
 info:∃i z,P.info? e=some i∧i.zero=some z∧i.size=n∧z.cells.size=n∧i.bytes≤32768
 pos:0<n
theorem ML{t ty e:TypeId}{i:TypeInfo}{z x:Value}(ht:P.underlying t=some (.slice e))(hi:P.info? e=some i)(hz:i.zero=some z)(h0:kX x){b:Addr}{n cap:Nat}{l:List Value}(hl:l.length=n*i.size)
  (hx:∀j v,l[j]?=some v→w.cell? (b.add j)=some v) (hn:0<n) (hle:n≤140737488355328) (r8:n*i.bytes≤140737488355328) :
  (Builtin.append_ #[t,t] ty #[x,.slice (some b) n cap]).run P w =
   .ok (.slice (some ⟨w.heap.size,0,none⟩) n (grownCap w n 0 e)) (w.drew.alloc (.cells (l.toArray++Builtin.zeroCells z.cells (grownCap w n 0 e-n)) e)):=by
 have adO:n*i.bytes≤281474976710656:=jT r8 (by decide)
 rcases h0 with rfl | ⟨a0,rfl⟩
 ·exact run_append_nil (P:=P) w t ty e i z ht hi hz b n cap l hl hx hn (by omega) adO
 ·have hg:=run_append_grow (P:=P) w t ty e i z ht hi hz a0 0 0 [] (by simp) (fun j v hj=>by simp at hj)
   b n cap l hl hx (by omega) (by omega) (growslice_fits (by omega) (by rw[jz];exact r8))
  simpa using hg
theorem adP{o:Oper}{t e:TypeId}{cb mx:Nat}{src:Option Nat}{sh:Sh}{p q:Operand}{x y:bp}{C:br}(hmx:mx≤140737488355328∧∀i,P.info? e=some i→mx*i.bytes≤140737488355328)(ho:o.op=.call ⟨.builtin .append,#[p,q],#[t,t]⟩)(ht:P.underlying t=some (.slice e))(he:Tl P e sh.length)
  (hp:bO p x=true) (hq:bO q y=true) (hn:S.eM cb) (hR:R E g S a w) (hd:∀d,o.dst=some d→d<E.nt)
  (ah:VO.run C o.dst S (.app cb src sh mx x y)=some S'):cd P E o S S' a w:=by
 obtain⟨⟨i,z,hi,hz,ec,oe,_⟩,gR⟩:=he;obtain⟨aqT,MM⟩:=hmx;have MM:=MM i hi;have r8:∀n,n≤mx→n*i.bytes≤140737488355328:=fun n h=>jT (rI _ h) MM;have fh:∀w,(execOp a.eval o).run P w=((Builtin.append_ #[t,t] o.type #[a.eval p,a.eval q]).run P w).andThen fun v w=>.ok (.value v) w:=fun w=>by
  simp[execOp,ho,resolve,invoke,builtin]
 have fin:∀(f k:Nat) (ys:List (List V)) (v:Value) (g':Gh) (w':World),(Builtin.append_ #[t,t] o.type #[a.eval p,a.eval q]).run P w=.ok v w' →
   R E g' { S with bf:=(f,k)::S.bf } a w'→aZ (({ S with bf:=(f,k)::S.bf }:St).cx g' w') (.slice (some f) sh.length ys) v →
   cd P E o S (({ S with bf:=(f,k)::S.bf }:St).put o.dst (.slice (some f) sh.length ys)) a w:=fun f k ys v g' w' h1 h2 h3 =>
  cd.value (x:=v) (w':=w') (g':=g') (by rw[fh,h1];rfl) (h2.put hd h3)
 have first:∀(f:Nat) (ys:List (List V)),(S.eM f∨look f S.bf=some 0)→ys.length≤mx→kX (a.eval p)→Fm w.heap g.m sh.length ys (a.eval q) →
   ys≠[]→cd P E o S (({ S with bf:=(f,ys.length)::S.bf }:St).put o.dst (.slice (some f) sh.length ys)) a w:=fun f ys hf hle h0 fV cf=>by
  rcases fV with⟨rfl,_⟩ | ⟨b,off,cap,l,hy,en,hc,hl⟩
  ·exact absurd rfl cf
  ·have hlen:0<ys.length:=AU.2 cf
   have kK:=hl.len;have hr:=ML (P:=P) (ty:=o.type) (w:=w) ht hi hz h0 (b:=⟨b,off,none⟩) (n:=ys.length) (cap:=cap) (l:=l) (by rw[ec];exact kK) (fun j v hj=>by rw[jX,cell?_eq];exact hc j v hj) hlen (by omega) (r8 _ hle)
   have Fv:l.length+(grownCap w ys.length 0 e-ys.length)*z.cells.size=grownCap w ys.length 0 e*sh.length:=by
    rw[kK,oe,← px];congr 1;have:=@grownCap_le w ys.length 0 e;omega
   obtain⟨g',h2,h3⟩:=hR.MJ (w':=w.drew.alloc (.cells (l.toArray++Builtin.zeroCells z.cells (grownCap w ys.length 0 e-ys.length)) e)) (f:=f) rfl rfl rfl rfl (n:=sh.length) (ys:=ys) (l:=l) hlen
    (hf.imp (fun z=>z) fun h=>⟨0,h,hlen⟩) hl (fun j v hj=>by rw[y8 (by have:=eJ hj;simpa using this)];simpa using hj) (cap:=grownCap w ys.length 0 e) grownCap_le
    (by simp only[ED,Fu,CK];omega)
   exact fin f _ ys _ g' _ (by rw[hy];exact hr) h2 h3
 have start:∀{b:V},kX (a.eval p)→S.ev y=some b→(match S.rows sh b with
   |some ys=>bif Nat.ble ys.length mx then some ({ S with bf:=(cb,ys.length)::S.bf }.put o.dst (.slice (some cb) sh.length ys)) else none
   |none=>none)=some S'→cd P E o S S' a w:=fun {b} h0 hy ah=>by
  split at ah
  ·rename_i ys jK
   cases hle:Nat.ble ys.length mx with
   |false=>simp[hle]at ah
   |true =>
    simp only[hle,bC]at ah;cases ah;have hle:=iD hle;have fV:=I0 hR (cS hR hq hy) jK;by_cases cf:ys=[]
    ·subst cf
     obtain⟨base,cap,e1,_⟩:=Fs fV;obtain⟨g',h2,h3,_⟩:=hR.I1 hn;refine fin cb 0 [] _ g' w ?_ h2 (h3 _ _ h0);rw[e1];rcases h0 with h0 | ⟨a0,h0⟩
     ·rw[h0];exact zR ht hi none 0 0 (bR _) base cap
     ·rw[h0];exact zR ht hi (some a0) 0 0 (bR _) base cap
    ·exact first cb ys (.inl hn) hle h0 fV cf
  ·cases ah
 simp only[VO.run]at ah;split at ah
 ·
  rename_i v hx hy;exact start (.inl (nY (cS hR hp hx))) hy ah
 ·
  rename_i n v hx hy;exact start (ta (cS hR hp hx)) hy ah
 ·
  rename_i f n es v hx hy;split at ah
  ·rename_i ys jK
   split at ah
   ·rename_i k hk
    have hk:look f S.bf=some k:=by
     cases I2:src==some f with
     |false=>simp[I2]at hk
     |true=>simpa [I2] using hk
    cases hc:(k==es.length&&(n==sh.length)&&Nat.ble (es.length+ys.length) mx) with
    |false=>simp[hc]at ah
    |true =>
     simp only[hc,bC]at ah;cases ah;simp only[bQ,dO]at hc;obtain⟨⟨hk1,xF⟩,hle⟩:=hc;subst hk1;subst xF;have hle:=iD hle;have fV:=I0 hR (cS hR hq hy) jK;have qf:=cS hR hp hx;obtain⟨Tm,r7⟩:fa w.heap g.m (.slice (some f) sh.length es) (a.eval p)∧xy (S.cx g w) f sh.length es.length (a.eval p):=by
      generalize a.eval p=xx at qf;cases qf with
      |plain h ht=>exact⟨h,(ht f _ es rfl _ hk).2 rfl⟩
     by_cases cf:ys=[]
     ·subst cf
      obtain⟨base,cap,e1,_⟩:=Fs fV;obtain⟨h2,h3⟩:=hR.again hk;obtain⟨bx,cx,e2,lY⟩:∃bx cx,a.eval p=.slice bx es.length cx∧es.length≤cx:=by
       rcases Te Tm with⟨h,base,cap,e⟩ | ⟨b,off,cap,l,e,en,_⟩
       ·exact⟨base,cap,by rw[e,h];rfl,by simp[h]⟩
       ·exact⟨_,cap,e,en⟩
      simp only[EO,sX,wE];refine fin f _ es (a.eval p) g w ?_ h2 (h3 _ _ qf);rw[e1,e2];exact zR ht hi bx es.length cx lY base cap
     ·rcases r7 with⟨h0,e0⟩ | ⟨b,off,cap,c,et,hτ,e0,hm,hb,fu,iW,_⟩
      ·have:es=[]:=bW.1 h0
       subst this;simp only[sX,jz,CI]at hle ⊢;exact first f ys (.inr hk) hle e0 fV cf
      ·rcases fV with⟨rfl,_⟩ | ⟨b',off',qM,l,xG,hcap',wL,hl⟩
       ·exact absurd rfl cf
       ·have hlen:0<ys.length:=AU.2 cf
        have kK:=hl.len;have I3:∃b off cap l,a.eval p=.slice (some ⟨b,off,none⟩) es.length cap∧es.length≤cap∧(∀(j:Nat) (y:Value),l[j]?=some y→cellAt w.heap b (off+j)=some y)∧jB w.heap g.m sh.length es l:=by
         rcases IY Tm with⟨_,hex⟩ | ⟨lK,_⟩ | h
         ·rw[hex]at e0;cases e0
         ·subst lK
          exact⟨b,off,cap,[],e0,xu _,fun j y h=>by simp at h,⟨by simp,by simp,by simp⟩⟩
         ·exact h
        rcases I3 with⟨bx,offx,capx,l0,hex,hcapx,lY,vu⟩
        ·rw[hex]at e0
         injection e0 with e1 e2 e3;injection e1 with e1;injection e1 with e4 e5;subst e4;subst e5;subst e3;have Fx:∀(j:Nat) (v:Value),l[j]?=some v→w.cell? ((⟨b',off',none⟩:Addr).add j)=some v:=fun j v hj=>by rw[jX,cell?_eq];exact wL j v hj
         by_cases CT:es.length+ys.length≤capx
         ·have hr:=run_append_room (P:=P) (ty:=o.type) ht hi (l:=l) (by rw[ec];exact kK) Fx CT (cap:=qM) hb (by rw[ec];exact fu) hl.Ba
          rw[ec]at hr;obtain⟨g',h2,h3⟩:=hR.adK hk hτ hb hm iW (cap:=capx) rfl cf CT fu vu lY hl rfl;exact fin f _ (es++ys) _ g' _ (by rw[hex,xG];exact hr) h2 h3
         ·have MN:(es.length+ys.length)*i.bytes≤140737488355328:=r8 _ hle
          have hr:=run_append_grow (P:=P) w t o.type e i z ht hi hz ⟨bx,offx,none⟩ es.length capx l0 (by rw[ec];exact vu.len) (fun j v hj=>by rw[jX,cell?_eq];exact lY j v hj)
           ⟨b',off',none⟩ ys.length qM l (by rw[ec];exact kK) Fx (by omega) (by omega) (growslice_fits (by omega) MN)
          have Tn:=vu.append hl;have adS:(l0++l).length=(es.length+ys.length)*sh.length:=by rw[Tn.len];simp
          have Fv:(l0++l).length+(grownCap w (es.length+ys.length) capx e-(es.length+ys.length))*z.cells.size=grownCap w (es.length+ys.length) capx e*sh.length:=by
           rw[adS,oe,← px];congr 1;have:=@grownCap_le w (es.length+ys.length) capx e;omega
          obtain⟨g',h2,h3⟩:=hR.MJ (w':=w.drew.alloc (.cells (l0.toArray++l.toArray++Builtin.zeroCells z.cells (grownCap w (es.length+ys.length) capx e-(es.length+ys.length))) e)) (f:=f) rfl rfl rfl rfl
           (n:=sh.length) (ys:=es++ys) (l:=l0++l) (by simp;omega) (.inr ⟨_,hk,by simp;omega⟩) Tn
           (fun j v hj=>by rw[y8 (by have:=eJ hj;simpa using this)];simpa using hj) (cap:=grownCap w (es.length+ys.length) capx e) (by rw[po];exact grownCap_le)
           (by simp only[ED,Fu,CK];simp at Fv;omega)
          rw[po]at h2 h3;exact fin f _ (es++ys) _ g' _ (by rw[hex,xG];exact hr) h2 h3
   ·cases ah
  ·cases ah
 ·cases ah
end
end Go.Vm

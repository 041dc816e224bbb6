/- - -/
import Derived.Test.YtabckmbjnjnegaaGreatDoorVm6
namespace Go.Vm
set_option linter.all false
section
variable {P:Program} {E:Entry} {g g':Gh} {S S':St} {a:Act} {w w':World} {T':List (Nat×Nat)} {N' B:Nat}
variable{n:Nat}{x:Value}
def JN{h:Array Obj}{m:Nat->Nat}{ys:List (List V)}(hr:JH h m n ys x):∃base cap,x=.slice base ys.length cap/\(ys≠[]->∃b off,base=some ⟨b,off,none⟩):=by
 rcases hr with⟨rfl,base,cap,rfl⟩ | ⟨b,off,cap,l,rfl,_⟩
 .exact⟨base,cap,rfl,λh=>absurd rfl h⟩
 .exact⟨_,cap,rfl,λ_=>⟨b,off,rfl⟩⟩
variable{t ty e:TypeId}{i:TypeInfo}
def C2(ht:P.underlying t=some (.slice e))(hi:P.info? e=some i)(base:Option Addr)(yT Bf:Nat)(hle:yT<=Bf)(JO:Option Addr)(cap:Nat) :
  (Builtin.append_ #[t,t] ty #[.slice base yT Bf,.slice JO 0 cap]).run P w=.ok (.slice base yT Bf) w:=by
 have hu:=kg (P:=P) (w:=w) ht;cases JO<;>cases base<;>simp[Builtin.append_,hu,sizeOf,typeInfo,hi,Builtin.lenOf,hle,Builtin.firstCells,loadCells,loadCellsFrom,storeCells]
variable{cap:Nat}{l:List Value}
def run_append_room(ht:P.underlying t=some (.slice e))(hi:P.info? e=some i){b off yT Bf:Nat}{x:Addr}(hl:l.length=n*i.size)
  (hx:∀j v,l[j]?=some v->w.cell? (x.add j)=some v) (hle:yT+n<=Bf) {c:Array Value} {et:TypeId} (hb:w.heap[b]?=some (.cells c et (0,0))) (gy:off+Bf*i.size<=c.size) (h1:∀v∈l,v.oneCell'=true) :
  (Builtin.append_ #[t,t] ty #[.slice (some ⟨b,off,none⟩) yT Bf,.slice (some x) n cap]).run P w =
   .ok (.slice (some ⟨b,off,none⟩) (yT+n) Bf) (w.setRow b (c.toList.take (off+yT*i.size)++l++c.toList.drop (off+yT*i.size+l.length)).toArray):=by
 have hu:=kg (P:=P) (w:=w) ht;have hf:=run_firstCells_some (P:=P) w i.size n x n cap l hl hx;have h2:(yT+n)*i.size<=Bf*i.size:=uk _ hle;rw[Aa]at h2;have eI:=run_storeCells_at P b (off+yT*i.size) et l 0 c w hb (by omega) h1
 simp only[yA]at eI;have hz:(match P.underlying t with|some (.int _)=>true|_=>false)=false:=by rw[ht]
 simp[Builtin.append_,hu,sizeOf,typeInfo,hi,Builtin.lenOf,hle,hf,lS,eI]
def grownCap_le{w:World}{Z0 lQ:Nat}{e:TypeId}:Z0<=grownCap w Z0 lQ e:=by
 simp only[grownCap,Question.cut];omega
def JP(z:Array Value)(n:Nat):(Builtin.zeroCells z n).size=n*z.size:=by simp[Builtin.zeroCells]
structure Sl(P:Program)(e:TypeId)(n:Nat):Prop where
 info:∃i z,P.info? e=some i/\i.zero=some z/\i.size=n/\z.cells.size=n/\i.bytes<=32768
 pos:0<n
def Sq{z:Value}(ht:P.underlying t=some (.slice e))(hi:P.info? e=some i)(hz:i.zero=some z)(h0:nn x){b:Addr}(hl:l.length=n*i.size)
  (hx:∀j v,l[j]?=some v->w.cell? (b.add j)=some v) (hn:0<n) (hle:n<=140737488355328) (vC:n*i.bytes<=140737488355328) :
  (Builtin.append_ #[t,t] ty #[x,.slice (some b) n cap]).run P w =
   .ok (.slice (some ⟨w.heap.size,0,none⟩) n (grownCap w n 0 e)) (w.drew.alloc (.cells (l.toArray++Builtin.zeroCells z.cells (grownCap w n 0 e-n)) e)):=by
 have amH:n*i.bytes<=281474976710656:=iO vC (by decide)
 rcases h0 with rfl | ⟨a0,rfl⟩
 .exact run_append_nil (P:=P) w t ty e i z ht hi hz b n cap l hl hx hn (by omega) amH
 .have hg:=run_append_grow (P:=P) w t ty e i z ht hi hz a0 0 0 [] (by simp) (λj v hj=>by simp at hj)
   b n cap l hl hx (by omega) (by omega) (growslice_fits (by omega) (by rw[kX];exact vC))
  simpa using hg
def amI{o:Oper}{cD mx:Nat}{src oy:Option Nat}{sh:Sh}{p q:Operand}{x y:bG}{C:bI}(hmx:mx<=140737488355328/\∀i,P.info? e=some i->mx*i.bytes<=140737488355328)(ho:o.op=.call ⟨.builtin .append,#[p,q],#[t,t]⟩)(ht:P.underlying t=some (.slice e))(he:Sl P e sh.length)
  (hp:cc p x=true) (hq:cc q y=true) (hn:S.fa cD) (hR:R E g S a w) (hd:∀d,o.dst=some d->d<E.nt)
  (hrun:VO.run C o.dst S (.app cD src oy sh mx x y)=some S'):cC P E o S S' a w:=by
 obtain⟨⟨i,z,hi,hz,eF,qO,_⟩,gR⟩:=he;obtain⟨aDo,Sr⟩:=hmx;have Sr:=Sr i hi;have vC:∀n,n<=mx->n*i.bytes<=140737488355328:=λn h=>iO (uk _ h) Sr;have fR:∀w,(execOp a.eval o).run P w=((Builtin.append_ #[t,t] o.type #[a.eval p,a.eval q]).run P w).andThen λv w=>.ok (.value v) w:=λw=>by
  simp[execOp,ho,resolve,invoke,builtin]
 have fin:∀(f k:Nat) (ys:List (List V)) (v:Value) (g':Gh) (w':World),(Builtin.append_ #[t,t] o.type #[a.eval p,a.eval q]).run P w=.ok v w' ->
   R E g' { S with bo:=(f,k)::S.bo } a w'->bh (({ S with bo:=(f,k)::S.bo }:St).cx g' w') (.slice (some f) sh.length ys) v ->
   cC P E o S (({ S with bo:=(f,k)::S.bo }:St).put o.dst (.slice (some f) sh.length ys)) a w:=λf k ys v g' w' h1 h2 h3 =>
  cC.value (x:=v) (w':=w') (g':=g') (by rw[fR,h1];rfl) (h2.put hd h3)
 have first:∀(f:Nat) (ys:List (List V)),(S.fa f\/look f S.bo=some 0)->ys.length<=mx->nn (a.eval p)->JH w.heap g.m sh.length ys (a.eval q) ->
   ys≠[]->cC P E o S (({ S with bo:=(f,ys.length)::S.bo }:St).put o.dst (.slice (some f) sh.length ys)) a w:=λf ys hf hle h0 gT cy=>by
  rcases gT with⟨rfl,_⟩ | ⟨b,off,cap,l,hy,eM,hc,hl⟩
  .exact absurd rfl cy
  .have hlen:0<ys.length:=nS.2 cy
   have la:=hl.len;have hr:=Sq (P:=P) (ty:=o.type) (w:=w) ht hi hz h0 (b:=⟨b,off,none⟩) (n:=ys.length) (cap:=cap) (l:=l) (by rw[eF];exact la) (λj v hj=>by rw[lS,cell?_eq];exact hc j v hj) hlen (by omega) (vC _ hle)
   have JQ:l.length+(grownCap w ys.length 0 e-ys.length)*z.cells.size=grownCap w ys.length 0 e*sh.length:=by
    rw[la,qO,<- Nat.add_mul];congr 1;have:=@grownCap_le w ys.length 0 e;omega
   obtain⟨g',h2,h3⟩:=hR.Sj (w':=w.drew.alloc (.cells (l.toArray++Builtin.zeroCells z.cells (grownCap w ys.length 0 e-ys.length)) e)) (f:=f) rfl rfl rfl rfl (n:=sh.length) (ys:=ys) (l:=l) hlen
    (hf.imp (λz=>z) λh=>⟨0,h,hlen⟩) hl (λj v hj=>by rw[CD (by have:=fg hj;simpa using this)];simpa using hj) (cap:=grownCap w ys.length 0 e) grownCap_le
    (by simp only[I9,JP,Gy];omega)
   exact fin f _ ys _ g' _ (by rw[hy];exact hr) h2 h3
 have start:∀{b:V},nn (a.eval p)->S.ev y=some b->(match S.jR oy sh b with
   |some ys=>bif Nat.ble ys.length mx then some ({ S with bo:=(cD,ys.length)::S.bo }.put o.dst (.slice (some cD) sh.length ys)) else none
   |none=>none)=some S'->cC P E o S S' a w:=λ{b} h0 hy hrun=>by
  split at hrun
  next ys ly=>
   cases hle:Nat.ble ys.length mx with
   |false=>simp[hle]at hrun
   |true =>
    simp only[hle,bW]at hrun;cases hrun;have hle:=js hle;have gT:=JL hR (di hR hq hy) ly;by_cases cy:ys=[]
    .subst cy
     obtain⟨base,cap,e1,_⟩:=JN gT;obtain⟨g',h2,h3,_⟩:=hR.NA hn;refine fin cD 0 [] _ g' w ?_ h2 (h3 _ _ h0);rw[e1];rcases h0 with h0 | ⟨a0,h0⟩
     .rw[h0];exact C2 ht hi none 0 0 (b8 _) base cap
     .rw[h0];exact C2 ht hi (some a0) 0 0 (b8 _) base cap
    .exact first cD ys (.inl hn) hle h0 gT cy
  .cases hrun
 simp only[VO.run]at hrun;split at hrun
 ·
  rename_i v hx hy;exact start (.inl (qK (di hR hp hx))) hy hrun
 ·
  rename_i n v hx hy;exact start (wF (di hR hp hx)) hy hrun
 ·
  rename_i f n es v hx hy;split at hrun
  next ys ly=>
   split at hrun
   next k hk=>
    have hk:look f S.bo=some k:=by
     cases NB:src==some f with
     |false=>simp[NB]at hk
     |true=>simpa [NB] using hk
    cases hc:(k==es.length&&(n==sh.length)&&Nat.ble (es.length+ys.length) mx) with
    |false=>simp[hc]at hrun
    |true =>
     simp only[hc,bW]at hrun;cases hrun;simp only[bZ,ec]at hc;obtain⟨⟨hk1,Ai⟩,hle⟩:=hc;subst hk1;subst Ai;have hle:=js hle;have gT:=JL hR (di hR hq hy) ly;have tM:=di hR hp hx;obtain⟨Z1,vB⟩:fK w.heap g.m (.slice (some f) sh.length es) (a.eval p)/\A9 (S.cx g w) f sh.length es.length (a.eval p):=by
      generalize a.eval p=xx at tM;cases tM with
      |plain h ht=>exact⟨h,(ht f _ es rfl _ hk).2 rfl⟩
     by_cases cy:ys=[]
     .subst cy
      obtain⟨base,cap,e1,_⟩:=JN gT;obtain⟨h2,h3⟩:=hR.again hk;obtain⟨bx,cx,e2,oB⟩:∃bx cx,a.eval p=.slice bx es.length cx/\es.length<=cx:=by
       rcases ZU Z1 with⟨h,base,cap,e⟩ | ⟨b,off,cap,l,e,eM,_⟩
       .exact⟨base,cap,by rw[e,h];rfl,by simp[h]⟩
       .exact⟨_,cap,e,eM⟩
      simp only[vl,tB,yA];refine fin f _ es (a.eval p) g w ?_ h2 (h3 _ _ tM);rw[e1,e2];exact C2 ht hi bx es.length cx oB base cap
     .rcases vB with⟨h0,e0⟩ | ⟨b,off,cap,c,et,hτ,e0,hm,hb,gy,ku,_⟩
      .have:es=[]:=pz.1 h0
       subst this;simp only[tB,kX,vr]at hle ⊢;exact first f ys (.inr hk) hle e0 gT cy
      .rcases gT with⟨rfl,_⟩ | ⟨b',off',uy,l,Bh,hcap',tK,hl⟩
       .exact absurd rfl cy
       .have hlen:0<ys.length:=nS.2 cy
        have la:=hl.len;have NC:∃b off cap l,a.eval p=.slice (some ⟨b,off,none⟩) es.length cap/\es.length<=cap/\(∀(j:Nat) (y:Value),l[j]?=some y->cellAt w.heap b (off+j)=some y)/\kY w.heap g.m sh.length es l:=by
         rcases Nx Z1 with⟨_,hex⟩ | ⟨nY,_⟩ | h
         .rw[hex]at e0;cases e0
         .subst nY
          exact⟨b,off,cap,[],e0,A6 _,λj y h=>by simp at h,⟨by simp,by simp,by simp⟩⟩
         .exact h
        rcases NC with⟨bx,offx,capx,l0,hex,hcapx,oB,yU⟩
        .rw[hex]at e0
         injection e0 with e1 e2 e3;injection e1 with e1;injection e1 with e4 e5;subst e4;subst e5;subst e3;have JS:∀(j:Nat) (v:Value),l[j]?=some v->w.cell? ((⟨b',off',none⟩:Addr).add j)=some v:=λj v hj=>by rw[lS,cell?_eq];exact tK j v hj
         by_cases GQ:es.length+ys.length<=capx
         .have hr:=run_append_room (P:=P) (ty:=o.type) ht hi (l:=l) (by rw[eF];exact la) JS GQ (cap:=uy) hb (by rw[eF];exact gy) hl.EA
          rw[eF]at hr;obtain⟨g',h2,h3⟩:=hR.amE hk hτ hb hm ku (cap:=capx) rfl cy GQ gy yU oB hl rfl;exact fin f _ (es++ys) _ g' _ (by rw[hex,Bh];exact hr) h2 h3
         .have Ss:(es.length+ys.length)*i.bytes<=140737488355328:=vC _ hle
          have hr:=run_append_grow (P:=P) w t o.type e i z ht hi hz ⟨bx,offx,none⟩ es.length capx l0 (by rw[eF];exact yU.len) (λj v hj=>by rw[lS,cell?_eq];exact oB j v hj)
           ⟨b',off',none⟩ ys.length uy l (by rw[eF];exact la) JS (by omega) (by omega) (growslice_fits (by omega) Ss)
          have Z2:=yU.append hl;have amL:(l0++l).length=(es.length+ys.length)*sh.length:=by rw[Z2.len];simp
          have JQ:(l0++l).length+(grownCap w (es.length+ys.length) capx e-(es.length+ys.length))*z.cells.size=grownCap w (es.length+ys.length) capx e*sh.length:=by
           rw[amL,qO,<- Nat.add_mul];congr 1;have:=@grownCap_le w (es.length+ys.length) capx e;omega
          obtain⟨g',h2,h3⟩:=hR.Sj (w':=w.drew.alloc (.cells (l0.toArray++l.toArray++Builtin.zeroCells z.cells (grownCap w (es.length+ys.length) capx e-(es.length+ys.length))) e)) (f:=f) rfl rfl rfl rfl
           (n:=sh.length) (ys:=es++ys) (l:=l0++l) (by simp;omega) (.inr ⟨_,hk,by simp;omega⟩) Z2
           (λj v hj=>by rw[CD (by have:=fg hj;simpa using this)];simpa using hj) (cap:=grownCap w (es.length+ys.length) capx e) (by rw[jQ];exact grownCap_le)
           (by simp only[I9,JP,Gy];simp at JQ;omega)
          rw[jQ]at h2 h3;exact fin f _ (es++ys) _ g' _ (by rw[hex,Bh];exact hr) h2 h3
   .cases hrun
  .cases hrun
 .cases hrun
end

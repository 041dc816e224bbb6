/- The value machine: functions of the library that write into a slice of ints. (Not yet wired into the operations.) -/
import Derived.Test.YtmpikpodpgnjhaaGreatVmR
namespace Go.Vm
set_option linter.all false
theorem Kj(x:Int):∀l:List Int,(ym x l).Perm (x::l)
 |[]=>.refl _
 |y::ys=>by
  simp only[ym];cases decide (x≤y) with
  |true=>exact .refl _
  |false=>exact((Kj x ys).cons y).trans (.swap x y ys)
theorem xy:∀l:List Int,(mA l).Perm l
 |[]=>.refl _
 |x::xs=>(Kj x _).trans ((xy xs).cons x)
theorem QS{x:Int}:∀{l:List Int},l.Pairwise (· ≤ ·)→(ym x l).Pairwise (· ≤ ·)
 |[],_=>by simp[ym]
 |y::ys,h=>by
  have hp:=List.pairwise_cons.1 h;simp only[ym];by_cases FW:x≤y
  ·simp only[FW,decide_true,cond_true,List.pairwise_cons]
   refine⟨fun z hz=>?_,hp.1,hp.2⟩;rcases List.mem_cons.1 hz with rfl|hz
   ·exact FW
   ·exact Int.le_trans FW (hp.1 z hz)
  ·simp only[FW,decide_false,cond_false,List.pairwise_cons]
   refine⟨fun z hz=>?_,QS hp.2⟩;rcases List.mem_cons.1 ((Kj x ys).mem_iff.1 hz) with rfl|hz
   ·omega
   ·exact hp.1 z hz
theorem Kk:∀l:List Int,(mA l).Pairwise (· ≤ ·)
 |[]=>.nil
 |x::xs=>QS (Kk xs)
theorem QT:∀{l m:List Int},l.Pairwise (· ≤ ·)→m.Pairwise (· ≤ ·)→l.Perm m→l=m
 |[],m,_,_,h=>(List.perm_nil.1 h.symm).symm
 |x::l,[],_,_,h=>by simpa using List.perm_nil.1 h
 |x::l,y::m,h1,h2,h=>by
  have p1:=List.pairwise_cons.1 h1;have p2:=List.pairwise_cons.1 h2;have e:x=y:=by
   have a:x∈y::m:=h.mem_iff.1 (by simp)
   have b:y∈x::l:=h.mem_iff.2 (by simp)
   rcases List.mem_cons.1 a with e|a
   ·exact e
   ·rcases List.mem_cons.1 b with e|b
    ·exact e.symm
    ·exact Int.le_antisymm (p1.1 y b) (p2.1 x a)
  subst e;rw[QT p1.2 p2.2 (List.Perm.cons_inv h)]
theorem abw(l:List Int):mA l=l.mergeSort fun x y=>decide (x≤y):=by
 refine QT (Kk l) ?_ ((xy l).trans (List.mergeSort_perm l _).symm);have:=List.pairwise_mergeSort (le:=fun x y:Int=>decide (x≤y)) (fun a b c h1 h2=>by simp at *;omega) (fun a b=>by simp;omega) l
 exact this.imp (by simp)
def abx(k b cap:Nat)(zs:List Int):Value :=
 match k with
 |0=>.tuple #[]
 |_=>.slice (some ⟨b,0,none⟩) (dedup zs).length cap
theorem A4:∀l:List Int,(dedup l).length≤l.length
 |[]=>Nat.le_refl _
 |[x]=>Nat.le_refl _
 |x::y::r=>by
  have:=A4 (y::r);simp only[dedup];cases x==y<;>simp at * <;> omega
theorem Kl(k:Nat)(zs:List Int):(sd k zs).length=zs.length:=by
 unfold sd;split
 ·exact(xy zs).length_eq
 ·have:=A4 zs
  simp;omega
theorem QU:∀{vs:List V} {zs:List Int},uF vs=some zs→vs=zs.map (V.int .i64)
 |[],zs,h=>by simp[uF]at h;subst h;rfl
 |v::vs,zs,h=>by
  unfold uF at h;split at h
  ·rename_i e;cases e
  ·rename_i n Ab e
   cases e;split at h
   ·rename_i zs' h'
    cases h;rw[QU h'];rfl
   ·cases h
  ·cases h
section
variable {P:Program} {E:Entry} {g g':Gh} {S S':St} {a:Act} {w w':World}
structure Written(w w':World)(b:Nat)(c':Array Value)(e:TypeId):Prop where
 os:w'.os=w.os
 tape:w'.tape=w.tape
 output:w'.output=w.output
 size:w.heap.size≤w'.heap.size
 same:∀i,i≠b→i<w.heap.size→w'.heap[i]?=w.heap[i]?
 at_:w'.heap[b]?=some (.cells c' e (0,0))
theorem aby{b:Nat}{c':Array Value}{e:TypeId}(hw:Written w w' b c' e)(hm:g.m b=0)(vG:E.w0.heap.size≤b∨∃i,i<E.N0∧E.g0.ow b=.ay i)(B8:∀p q,g.ow b≠.cell p q)(hR:R E g S a w) :
  Touch E g S w g S.a7 S.ay.length w' b none none where
 os:=hw.os
 tape:=hw.tape
 output:=hw.output
 size:=hw.size
 heap:=fun i hi br=>hw.same i hi br
 m:=fun _ _=>rfl
 ow:=fun _ _=>rfl
 κ:=fun _ _=>rfl
 cp:=fun _ _=>rfl
 τ:=fun _ _=>rfl
 T:=fun _ _=>rfl
 γ:=fun _ _=>rfl
 eG:=Nat.le_refl _
 γnew:=fun i a b=>absurd a (by omega)
 fresh:=vG.imp (fun z=>z) .inl
 gN:=fun p q _ e=>absurd e (B8 p q)
 lv:=fun i e=>hR.z7 e (Nat.le_refl _)
 jQ:=fun o y ho _=>absurd ho (by omega)
 nZ:=fun _=>Nat.le_refl _
theorem R.written(hR:R E g S a w){id:Nat}{cs dR:List V}(e9:look id S.aV=some cs){c':Array Value}{e:TypeId}(hw:Written w w' (g.κ id) c' e)(eT:g.cp id≤c'.size)(ch:cs≠[])
  (eW:∀(j:Nat) (v:V),dR[j]?=some v→v.cz=true∧∃y,c'[j]?=some y∧aY (S.cx g w) v y) :
  R E g { S with aV:=(id,dR)::S.aV } a w'∧∀v x,aY (S.cx g w) v x→aY (S.cx g w') v x:=by
 obtain⟨cn,fU,hm,_⟩:=(hR.aV id cs e9).resolve_left (fun h=>ch h.1);have tt:=aby (S:=S) hw hm (.inl fU) (fun _ _ e=>by rw[cn]at e;cases e) hR
 have hk:∀i,il (S.cx g w) ⟨w'.heap,g,S.ay.length,S.a7⟩ i:=fun i=>tt.keeps hR (fun e=>by cases e) (fun e=>by cases e) (fun _ e=>by rw[cn]at e;cases e)
 refine⟨R.mU tt hR rfl rfl (fun i=>.inl (hk i)) (fun s v hs=>.inl hs) (fun i fP hi=>?_) (fun f k b hf hb=>.inl ⟨(fun e=>by cases e),fun _ e=>by rw[cn]at e;cases e⟩)
  (fun i o hi=>.inl ⟨hi,fun _=>⟨fun e=>(by rw[cn]at e;cases e),fun _ e=>(by rw[cn]at e;cases e)⟩⟩),fun v x h=>h.mono tt.le fun i=>.inl (hk i)⟩
 rw[dF]at hi;by_cases jG:id=i
 ·subst jG
  rw[if_pos rfl]at hi;cases hi;refine .inr ⟨cn,fU,hm,c',e,hw.at_,eT,fun j u hu=>?_⟩;obtain⟨q1,y,q2,q3⟩:=eW j u hu;exact⟨q1,y,q2,q3.mono tt.le fun i=>.inl (hk i)⟩
 ·rw[if_neg jG]at hi
  exact .inl ⟨hi,(fun e=>by cases e),fun _ e=>jG (by rw[cn]at e;cases e;rfl)⟩
structure I1(P:Program)(k:Nat)(f:FuncId):Prop where
 fn:∃fn,P.funcs[f]?=some fn∧fn.body.isSome=true∧(fn.name== "runtime.NumGoroutine")=false
 run:∀(w:World) (b cap:Nat) (zs:List Int) (c:Array Value) (e:TypeId),w.heap[b]?=some (.cells c e (0,0))→(∀(j:Nat) z,zs[j]?=some z→c[j]?=some (.int .i64 z))→zs.length≤cap→cap≤c.size→zs.length≤lim →
  Calls P f #[.slice (some ⟨b,0,none⟩) zs.length cap] w fun r w'=>r=.returned (abx k b cap zs)∧∃c',Written w w' b c' e∧c'.size=c.size ∧
   (∀(j:Nat) z,(sd k zs)[j]?=some z→c'[j]?=some (.int .i64 z))∧∀j,zs.length≤j→c'[j]?=c[j]?
theorem Zw{o:Oper}{f q:Operand}{ts:Array TypeId}{k i:Nat}{l8:FuncId}{x:bj}(ho:o.op=.call ⟨.value f,#[q],ts⟩)(hf:a.eval f=.func (.func l8) #[] #[])(hq:bJ q x=true)(hm:I1 P k l8)
  (hR:R E g S a w) (hd:∀d,o.dst=some d→d<E.nt) (ah:S.mut k i o.dst (S.ev x)=some S'):b0 P E o S S' a w:=by
 unfold St.mut at ah;split at ah
 ·rename_i id s n hx
  split at ah
  ·rename_i cs e9
   cases hc:(id==i&&(s==1)&&Nat.ble n cs.length&&Nat.ble n lim&&Nat.blt 0 n) with
   |false=>simp[hc]at ah
   |true =>
    simp only[hc,cond_true]at ah;simp only[Bool.and_eq_true,beq_iff_eq]at hc;obtain⟨⟨⟨⟨rfl,rfl⟩,hn⟩,qo⟩,gG⟩:=hc;have gG:0<n:=by simpa [Nat.blt_eq] using gG
    have ch:cs≠[]:=fun e=>by subst e;have:=Nat.le_of_ble_eq_true hn;simp at this;omega
    have hn:=Nat.le_of_ble_eq_true hn;have qo:=Nat.le_of_ble_eq_true qo;split at ah
    ·rename_i zs mV
     cases ah;have mV:=QU mV;have hlen:zs.length=n:=by
      have:=congrArg List.length mV;simp at this;omega
     obtain⟨cn,fU,CX,c,e,hh,eT,hj⟩:=(hR.aV id cs e9).resolve_left (fun h=>ch h.1);obtain⟨cap,eu,uY,ex⟩:=(pg (cL hR hq hx)).resolve_right (fun h=>by omega)
     have uY:cap*1=g.cp id:=uY;have ex:a.eval q=.slice (some ⟨g.κ id,0,none⟩) n cap:=ex;obtain⟨fn,pz,tK,og⟩:=hm.fn;have fW:(execOp a.eval o).run P w=.ok (.enter l8 (#[q].map a.eval)) w:=by
      simp[execOp,ho,resolve,hf,Deferred.ofValue,invoke,callFunc,pz];simp at og;cases hb:fn.body with
      |none=>simp[hb]at tK
      |some c=>simp[og]
     have im:∀(j:Nat) z,zs[j]?=some z→c[j]?=some (.int .i64 z):=fun j z hz=>by
      have AY:j<n:=by rw[←hlen];exact eC hz
      have hv:cs[j]?=some (.int .i64 z):=by
       have:(cs.take n)[j]?=some (.int .i64 z):=by rw[mV];simp[hz]
       rw[List.getElem?_take,if_pos AY]at this;exact this
      obtain⟨_,y,hy,hr⟩:=hj j _ hv;rw[hy,kX hr]
     intro K Q hK;unfold Oper.wp;rw[fW,Oper.upon_enter];have wh:=hm.run w (g.κ id) cap zs c e hh im (by omega) (by omega) (by omega)
     rw[show #[q].map a.eval = #[.slice (some ⟨g.κ id,0,none⟩) zs.length cap] from by simp[ex,hlen]]
     refine wh.mono fun r w' ⟨he,c',hw,ei,kN,kn⟩=>?_;subst he;have hml:=Kl k zs;obtain⟨r1,r2⟩:=hR.written e9 (dR:=(sd k zs).map (V.int .i64)++cs.drop n) hw (by omega) ch (fun j v hv=>by
      rw[List.getElem?_append]at hv;simp only[List.length_map,hml,hlen]at hv;split at hv
      ·simp only[List.getElem?_map,Option.map_eq_some_iff]at hv
       obtain⟨z,hz,rfl⟩:=hv;exact⟨rfl,_,kN j z hz,.plain (.int _ _) (sk rfl)⟩
      ·rename_i AY
       rw[List.getElem?_drop,show n+(j-n)=j from by omega]at hv
       obtain⟨q1,y,q2,q3⟩:=hj j v hv;exact⟨q1,y,by rw[kn j (by omega)];exact q2,q3⟩)
     refine hK g _ _ (r1.put hd ?_);cases k with
     |zero=>exact .tuple _ _ rfl (fun i v x hv _=>by simp at hv)
     |succ k=>exact aY.bO (X:=({ S with aV:=(id,(sd (k+1) zs).map (V.int .i64)++cs.drop n)::S.aV }:St).cx g w') id 1 (dedup zs).length cap (by have:=A4 zs;omega) uY
    ·cases ah
  ·cases ah
 ·cases ah
structure Km(P:Program)(f:FuncId):Prop where
 fn:∃fn,P.funcs[f]?=some fn∧fn.body.isSome=true∧(fn.name== "runtime.NumGoroutine")=false
 run:∀(w:World) (n:Int),0≤n→n≤lim→Calls P f #[.slice none 0 0,.int .i64 n] w fun r w'=>(r=.returned (.slice none 0 0)∧w'=w) ∨
  ∃c e cap,r=.returned (.slice (some ⟨w.heap.size,0,none⟩) 0 cap)∧w'.heap=w.heap.push (.cells c e (0,0))∧w'.os=w.os∧w'.tape=w.tape∧w'.output=w.output∧cap*1≤c.size
def pB(P:Program)(k:Nat)(f:FuncId):Prop:=match k with|2=>Km P f|k=>I1 P k f
theorem Zt{o:Oper}{f p q:Operand}{ts:Array TypeId}{id:Nat}{l8:FuncId}{x:bj}{C:bm}(ho:o.op=.call ⟨.value f,#[p,q],ts⟩)(hf:a.eval f=.func (.func l8) #[] #[])(hp:bJ p (.c .bW)=true)(hq:bJ q x=true)(hm:Km P l8)(hn:S.ez id)
  (hR:R E g S a w) (hd:∀d,o.dst=some d→d<E.nt) (ah:VO.run C o.dst S (.grow l8 id x)=some S'):b0 P E o S S' a w:=by
 simp only[VO.run]at ah;split at ah
 ·rename_i n hx
  cases hc:(decide (0≤n)&&decide (n≤(lim:Int))) with
  |false=>simp[hc]at ah
  |true =>
   simp only[hc,cond_true]at ah;simp only[Bool.and_eq_true,decide_eq_true_eq]at hc;cases ah;have e1:=kX (cL hR hq hx);have e2:=nE (cL hR hp rfl);obtain⟨fn,pz,tK,og⟩:=hm.fn;have fW:(execOp a.eval o).run P w=.ok (.enter l8 (#[p,q].map a.eval)) w:=by
    simp[execOp,ho,resolve,hf,Deferred.ofValue,invoke,callFunc,pz];simp at og;cases hb:fn.body with
    |none=>simp[hb]at tK
    |some c=>simp[og]
   intro K Q hK;unfold Oper.wp;rw[fW,Oper.upon_enter];have wh:=hm.run w n hc.1 hc.2;rw[show #[p,q].map a.eval = #[.slice none 0 0,.int .i64 n] from by simp[e1,e2]]
   refine wh.mono fun r w' h=>?_;rcases h with⟨rfl,rfl⟩ | ⟨c,e,cap,rfl,h1,h2,h3,h4,h5⟩
   ·obtain⟨g',r1,_,r2,_⟩:=hR.Jt hn 0
    exact hK g' _ _ (r1.put hd (.qb _ _ (.inl rfl) r2))
   ·obtain⟨g',r1,r2,r3⟩:=hR.newObj (cpn:=cap*1) (hcpn:=h5) hn h1 h2 h3 h4 (cs:=[]) (fun j v hj=>by simp at hj)
    refine hK g' _ _ (r1.put hd ?_);rw[←r2];exact .bO id 1 0 cap (Nat.zero_le _) r3.symm
 ·cases ah
end
end Go.Vm

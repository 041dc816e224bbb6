/- The value machine: functions of the library that write into a slice of ints. (Not yet wired into the operations.) -/
import Derived.Test.YtmpikpodpgnjhaaGreatVmR
namespace Go.Vm
set_option linter.all false
theorem Kt(x:Int):∀l:List Int,(xH x l).Perm (x::l)
 |[]=>.refl _
 |y::ys=>by
  simp only[xH];cases decide (x≤y) with
  |true=>exact .refl _
  |false=>exact((Kt x ys).cons y).trans (.swap x y ys)
theorem xd:∀l:List Int,(mH l).Perm l
 |[]=>.refl _
 |x::xs=>(Kt x _).trans ((xd xs).cons x)
theorem QZ{x:Int}:∀{l:List Int},l.Pairwise (· ≤ ·)→(xH x l).Pairwise (· ≤ ·)
 |[],_=>by simp[xH]
 |y::ys,h=>by
  have hp:=List.pairwise_cons.1 h;simp only[xH];by_cases FY:x≤y
  ·simp only[FY,decide_true,cond_true,List.pairwise_cons]
   refine⟨fun z hz=>?_,hp.1,hp.2⟩;rcases List.mem_cons.1 hz with rfl|hz
   ·exact FY
   ·exact Int.le_trans FY (hp.1 z hz)
  ·simp only[FY,decide_false,cond_false,List.pairwise_cons]
   refine⟨fun z hz=>?_,QZ hp.2⟩;rcases List.mem_cons.1 ((Kt x ys).mem_iff.1 hz) with rfl|hz
   ·omega
   ·exact hp.1 z hz
theorem Ku:∀l:List Int,(mH l).Pairwise (· ≤ ·)
 |[]=>.nil
 |x::xs=>QZ (Ku xs)
theorem Q0:∀{l m:List Int},l.Pairwise (· ≤ ·)→m.Pairwise (· ≤ ·)→l.Perm m→l=m
 |[],m,_,_,h=>(List.perm_nil.1 h.symm).symm
 |x::l,[],_,_,h=>by simpa using List.perm_nil.1 h
 |x::l,y::m,h1,h2,h=>by
  have p1:=List.pairwise_cons.1 h1;have p2:=List.pairwise_cons.1 h2;have e:x=y:=by
   have a:x∈y::m:=h.mem_iff.1 (by simp)
   have b:y∈x::l:=h.mem_iff.2 (by simp)
   rcases List.mem_cons.1 a with e|a
   ·exact e
   ·rcases List.mem_cons.1 b with e|b
    ·exact e.symm
    ·exact Int.le_antisymm (p1.1 y b) (p2.1 x a)
  subst e;rw[Q0 p1.2 p2.2 (List.Perm.cons_inv h)]
theorem ZP(l:List Int):mH l=l.mergeSort fun x y=>decide (x≤y):=by
 refine Q0 (Ku l) ?_ ((xd l).trans (List.mergeSort_perm l _).symm);have:=List.pairwise_mergeSort (le:=fun x y:Int=>decide (x≤y)) (fun a b c h1 h2=>by simp at *;omega) (fun a b=>by simp;omega) l
 exact this.imp (by simp)
def ZQ(k b cap:Nat)(zs:List Int):Value :=
 match k with
 |0=>.tuple #[]
 |_=>.slice (some ⟨b,0,none⟩) (dedup zs).length cap
theorem A2:∀l:List Int,(dedup l).length≤l.length
 |[]=>Nat.le_refl _
 |[x]=>Nat.le_refl _
 |x::y::r=>by
  have:=A2 (y::r);simp only[dedup];cases x==y<;>simp at * <;> omega
theorem Kw(k:Nat)(zs:List Int):(rU k zs).length=zs.length:=by
 unfold rU;split
 ·exact(xd zs).length_eq
 ·have:=A2 zs
  simp;omega
theorem Q1:∀{vs:List V} {zs:List Int},ug vs=some zs→vs=zs.map (V.int .i64)
 |[],zs,h=>by simp[ug]at h;subst h;rfl
 |v::vs,zs,h=>by
  unfold ug at h;split at h
  ·rename_i e;cases e
  ·rename_i n Ac e
   cases e;split at h
   ·rename_i zs' h'
    cases h;rw[Q1 h'];rfl
   ·cases h
  ·cases h
section
variable {P:Program} {E:Entry} {g g':Gh} {S S':St} {a:Act} {w w':World}
structure Written(w w':World)(b:Nat)(c':Array Value)(e:TypeId):Prop where
 os:w'.os=w.os
 tape:w'.tape=w.tape
 output:w'.output=w.output
 size:w.heap.size≤w'.heap.size
 same:∀i,i≠b→i<w.heap.size→w'.heap[i]?=w.heap[i]?
 at_:w'.heap[b]?=some (.cells c' e (0,0))
theorem ZR{b:Nat}{c':Array Value}{e:TypeId}(hw:Written w w' b c' e)(hm:g.m b=0)(vg:E.w0.heap.size≤b∨∃i,i<E.N0∧E.g0.ow b=.az i)(Ck:∀p q,g.ow b≠.cell p q)(hR:R E g S a w) :
  Touch E g S w g S.bm S.az.length w' b none none where
 os:=hw.os
 tape:=hw.tape
 output:=hw.output
 size:=hw.size
 heap:=fun i hi bG=>hw.same i hi bG
 m:=fun _ _=>rfl
 ow:=fun _ _=>rfl
 κ:=fun _ _=>rfl
 cp:=fun _ _=>rfl
 τ:=fun _ _=>rfl
 T:=fun _ _=>rfl
 γ:=fun _ _=>rfl
 fb:=Nat.le_refl _
 γnew:=fun i a b=>absurd a (by omega)
 fresh:=vg.imp (fun z=>z) .inl
 ig:=fun p q _ e=>absurd e (Ck p q)
 lv:=fun i e=>hR.z8 e (Nat.le_refl _)
 jk:=fun o y ho _=>absurd ho (by omega)
 oC:=fun _=>Nat.le_refl _
theorem R.written(hR:R E g S a w){id:Nat}{cs ek:List V}(fE:look id S.bb=some cs){c':Array Value}{e:TypeId}(hw:Written w w' (g.κ id) c' e)(fH:g.cp id≤c'.size)(cF:cs≠[])
  (fx:∀(j:Nat) (v:V),ek[j]?=some v→v.cM=true∧∃y,c'[j]?=some y∧bj (S.cx g w) v y) :
  R E g { S with bb:=(id,ek)::S.bb } a w'∧∀v x,bj (S.cx g w) v x→bj (S.cx g w') v x:=by
 obtain⟨cJ,gG,hm,_⟩:=(hR.bb id cs fE).resolve_left (fun h=>cF h.1);have tt:=ZR (S:=S) hw hm (.inl gG) (fun _ _ e=>by rw[cJ]at e;cases e) hR
 have hk:∀i,iP (S.cx g w) ⟨w'.heap,g,S.az.length,S.bm⟩ i:=fun i=>tt.keeps hR (fun e=>by cases e) (fun e=>by cases e) (fun _ e=>by rw[cJ]at e;cases e)
 refine⟨R.nf tt hR rfl rfl (fun i=>.inl (hk i)) (fun s v hs=>.inl hs) (fun i gz hi=>?_) (fun f k b hf hb=>.inl ⟨(fun e=>by cases e),fun _ e=>by rw[cJ]at e;cases e⟩)
  (fun i o hi=>.inl ⟨hi,fun _=>⟨fun e=>(by rw[cJ]at e;cases e),fun _ e=>(by rw[cJ]at e;cases e)⟩⟩),fun v x h=>h.mono tt.le fun i=>.inl (hk i)⟩
 rw[dQ]at hi;by_cases j9:id=i
 ·subst j9
  rw[if_pos rfl]at hi;cases hi;refine .inr ⟨cJ,gG,hm,c',e,hw.at_,fH,fun j u hu=>?_⟩;obtain⟨q1,y,q2,q3⟩:=fx j u hu;exact⟨q1,y,q2,q3.mono tt.le fun i=>.inl (hk i)⟩
 ·rw[if_neg j9]at hi
  exact .inl ⟨hi,(fun e=>by cases e),fun _ e=>j9 (by rw[cJ]at e;cases e;rfl)⟩
structure I8(P:Program)(k:Nat)(f:FuncId):Prop where
 fn:∃fn,P.funcs[f]?=some fn∧fn.body.isSome=true∧(fn.name== "runtime.NumGoroutine")=false
 run:∀(w:World) (b cap:Nat) (zs:List Int) (c:Array Value) (e:TypeId),w.heap[b]?=some (.cells c e (0,0))→(∀(j:Nat) z,zs[j]?=some z→c[j]?=some (.int .i64 z))→zs.length≤cap→cap≤c.size→zs.length≤lim →
  Calls P f #[.slice (some ⟨b,0,none⟩) zs.length cap] w fun r w'=>r=.returned (ZQ k b cap zs)∧∃c',Written w w' b c' e∧c'.size=c.size ∧
   (∀(j:Nat) z,(rU k zs)[j]?=some z→c'[j]?=some (.int .i64 z))∧∀j,zs.length≤j→c'[j]?=c[j]?
theorem XP{o:Oper}{f q:Operand}{ts:Array TypeId}{k i:Nat}{mq:FuncId}{x:bB}(ho:o.op=.call ⟨.value f,#[q],ts⟩)(hf:a.eval f=.func (.func mq) #[] #[])(hq:bX q x=true)(hm:I8 P k mq)
  (hR:R E g S a w) (hd:∀d,o.dst=some d→d<E.nt) (aj:S.mut k i o.dst (S.ev x)=some S'):ct P E o S S' a w:=by
 unfold St.mut at aj;split at aj
 ·rename_i id s n hx
  split at aj
  ·rename_i cs fE
   cases hc:(id==i&&(s==1)&&Nat.ble n cs.length&&Nat.ble n lim&&Nat.blt 0 n) with
   |false=>simp[hc]at aj
   |true =>
    simp only[hc,cond_true]at aj;simp only[Bool.and_eq_true,beq_iff_eq]at hc;obtain⟨⟨⟨⟨rfl,rfl⟩,hn⟩,qF⟩,hH⟩:=hc;have hH:0<n:=by simpa [Nat.blt_eq] using hH
    have cF:cs≠[]:=fun e=>by subst e;have:=Nat.le_of_ble_eq_true hn;simp at this;omega
    have hn:=Nat.le_of_ble_eq_true hn;have qF:=Nat.le_of_ble_eq_true qF;split at aj
    ·rename_i zs nh
     cases aj;have nh:=Q1 nh;have hlen:zs.length=n:=by
      have:=congrArg List.length nh;simp at this;omega
     obtain⟨cJ,gG,Dd,c,e,hh,fH,hj⟩:=(hR.bb id cs fE).resolve_left (fun h=>cF h.1);obtain⟨cap,eP,uF,ex⟩:=(pJ (cZ hR hq hx)).resolve_right (fun h=>by omega)
     have uF:cap*1=g.cp id:=uF;have ex:a.eval q=.slice (some ⟨g.κ id,0,none⟩) n cap:=ex;obtain⟨fn,pT,tm,oK⟩:=hm.fn;have gI:(execOp a.eval o).run P w=.ok (.enter mq (#[q].map a.eval)) w:=by
      simp[execOp,ho,resolve,hf,Deferred.ofValue,invoke,callFunc,pT];simp at oK;cases hb:fn.body with
      |none=>simp[hb]at tm
      |some c=>simp[oK]
     have iQ:∀(j:Nat) z,zs[j]?=some z→c[j]?=some (.int .i64 z):=fun j z hz=>by
      have AX:j<n:=by rw[←hlen];exact eZ hz
      have hv:cs[j]?=some (.int .i64 z):=by
       have:(cs.take n)[j]?=some (.int .i64 z):=by rw[nh];simp[hz]
       rw[List.getElem?_take,if_pos AX]at this;exact this
      obtain⟨_,y,hy,hr⟩:=hj j _ hv;rw[hy,lA hr]
     intro K Q hK;unfold Oper.wp;rw[gI,Oper.upon_enter];have vG:=hm.run w (g.κ id) cap zs c e hh iQ (by omega) (by omega) (by omega)
     rw[show #[q].map a.eval = #[.slice (some ⟨g.κ id,0,none⟩) zs.length cap] from by simp[ex,hlen]]
     refine vG.mono fun r w' ⟨he,c',hw,eH,lj,kJ⟩=>?_;subst he;have ZS:=Kw k zs;obtain⟨r1,r2⟩:=hR.written fE (ek:=(rU k zs).map (V.int .i64)++cs.drop n) hw (by omega) cF (fun j v hv=>by
      rw[List.getElem?_append]at hv;simp only[List.length_map,ZS,hlen]at hv;split at hv
      ·simp only[List.getElem?_map,Option.map_eq_some_iff]at hv
       obtain⟨z,hz,rfl⟩:=hv;exact⟨rfl,_,lj j z hz,.plain (.int _ _) (rY rfl)⟩
      ·rename_i AX
       rw[List.getElem?_drop,show n+(j-n)=j from by omega]at hv
       obtain⟨q1,y,q2,q3⟩:=hj j v hv;exact⟨q1,y,by rw[kJ j (by omega)];exact q2,q3⟩)
     refine hK g _ _ (r1.put hd ?_);cases k with
     |zero=>exact .tuple _ _ rfl (fun i v x hv _=>by simp at hv)
     |succ k=>exact bj.cb (X:=({ S with bb:=(id,(rU (k+1) zs).map (V.int .i64)++cs.drop n)::S.bb }:St).cx g w') id 1 (dedup zs).length cap (by have:=A2 zs;omega) uF
    ·cases aj
  ·cases aj
 ·cases aj
structure Kx(P:Program)(f:FuncId):Prop where
 fn:∃fn,P.funcs[f]?=some fn∧fn.body.isSome=true∧(fn.name== "runtime.NumGoroutine")=false
 run:∀(w:World) (n:Int),0≤n→n≤lim→Calls P f #[.slice none 0 0,.int .i64 n] w fun r w'=>(r=.returned (.slice none 0 0)∧w'=w) ∨
  ∃c e cap,r=.returned (.slice (some ⟨w.heap.size,0,none⟩) 0 cap)∧w'.heap=w.heap.push (.cells c e (0,0))∧w'.os=w.os∧w'.tape=w.tape∧w'.output=w.output∧cap*1≤c.size
def pU(P:Program)(k:Nat)(f:FuncId):Prop:=match k with|2=>Kx P f|k=>I8 P k f
theorem XM{o:Oper}{f p q:Operand}{ts:Array TypeId}{id:Nat}{mq:FuncId}{x:bB}{C:bC}(ho:o.op=.call ⟨.value f,#[p,q],ts⟩)(hf:a.eval f=.func (.func mq) #[] #[])(hp:bX p (.c .aK)=true)(hq:bX q x=true)(hm:Kx P mq)(hn:S.eR id)
  (hR:R E g S a w) (hd:∀d,o.dst=some d→d<E.nt) (aj:VO.run C o.dst S (.grow mq id x)=some S'):ct P E o S S' a w:=by
 simp only[VO.run]at aj;split at aj
 ·rename_i n hx
  cases hc:(decide (0≤n)&&decide (n≤(lim:Int))) with
  |false=>simp[hc]at aj
  |true =>
   simp only[hc,cond_true]at aj;simp only[Bool.and_eq_true,decide_eq_true_eq]at hc;cases aj;have e1:=lA (cZ hR hq hx);have e2:=nV (cZ hR hp rfl);obtain⟨fn,pT,tm,oK⟩:=hm.fn;have gI:(execOp a.eval o).run P w=.ok (.enter mq (#[p,q].map a.eval)) w:=by
    simp[execOp,ho,resolve,hf,Deferred.ofValue,invoke,callFunc,pT];simp at oK;cases hb:fn.body with
    |none=>simp[hb]at tm
    |some c=>simp[oK]
   intro K Q hK;unfold Oper.wp;rw[gI,Oper.upon_enter];have vG:=hm.run w n hc.1 hc.2;rw[show #[p,q].map a.eval = #[.slice none 0 0,.int .i64 n] from by simp[e1,e2]]
   refine vG.mono fun r w' h=>?_;rcases h with⟨rfl,rfl⟩ | ⟨c,e,cap,rfl,h1,h2,h3,h4,h5⟩
   ·obtain⟨g',r1,_,r2,_⟩:=hR.JB hn 0
    exact hK g' _ _ (r1.put hd (.qo _ _ (.inl rfl) r2))
   ·obtain⟨g',r1,r2,r3⟩:=hR.newObj (cpn:=cap*1) (hcpn:=h5) hn h1 h2 h3 h4 (cs:=[]) (fun j v hj=>by simp at hj)
    refine hK g' _ _ (r1.put hd ?_);rw[←r2];exact .cb id 1 0 cap (Nat.zero_le _) r3.symm
 ·cases aj
end
end Go.Vm

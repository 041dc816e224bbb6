/- The value machine: functions of the library that write into a slice of ints. (Not yet wired into the operations.) -/
import Derived.Test.YtocclbnghhaejaaGreatVmR
namespace Go.Vm
set_option linter.all false
theorem M5(x:Int):∀l:List Int,(Ay x l).Perm (x::l)
 |[]=>.refl _
 |y::ys=>by
  simp only[Ay];cases decide (x≤y) with
  |true=>exact .refl _
  |false=>exact((M5 x ys).cons y).trans (.swap x y ys)
theorem zN:∀l:List Int,(nb l).Perm l
 |[]=>.refl _
 |x::xs=>(M5 x _).trans ((zN xs).cons x)
theorem Ud{x:Int}:∀{l:List Int},l.Pairwise (· ≤ ·)→(Ay x l).Pairwise (· ≤ ·)
 |[],_=>by simp[Ay]
 |y::ys,h=>by
  have hp:=List.pairwise_cons.1 h;simp only[Ay];by_cases IG:x≤y
  ·simp only[IG,decide_true,cond_true,List.pairwise_cons]
   refine⟨fun z hz=>?_,hp.1,hp.2⟩;rcases List.mem_cons.1 hz with rfl|hz
   ·exact IG
   ·exact Int.le_trans IG (hp.1 z hz)
  ·simp only[IG,decide_false,cond_false,List.pairwise_cons]
   refine⟨fun z hz=>?_,Ud hp.2⟩;rcases List.mem_cons.1 ((M5 x ys).mem_iff.1 hz) with rfl|hz
   ·omega
   ·exact hp.1 z hz
theorem M6:∀l:List Int,(nb l).Pairwise (· ≤ ·)
 |[]=>.nil
 |x::xs=>Ud (M6 xs)
theorem Ue:∀{l m:List Int},l.Pairwise (· ≤ ·)→m.Pairwise (· ≤ ·)→l.Perm m→l=m
 |[],m,_,_,h=>(List.perm_nil.1 h.symm).symm
 |x::l,[],_,_,h=>by simpa using List.perm_nil.1 h
 |x::l,y::m,h1,h2,h=>by
  have p1:=List.pairwise_cons.1 h1;have p2:=List.pairwise_cons.1 h2;have e:x=y:=by
   have a:x∈y::m:=h.mem_iff.1 (by simp)
   have b:y∈x::l:=h.mem_iff.2 (by simp)
   rcases List.mem_cons.1 a with e|a
   ·exact e
   ·rcases List.mem_cons.1 b with e|b
    ·exact e.symm
    ·exact Int.le_antisymm (p1.1 y b) (p2.1 x a)
  subst e;rw[Ue p1.2 p2.2 (List.Perm.cons_inv h)]
theorem afG(l:List Int):nb l=l.mergeSort fun x y=>decide (x≤y):=by
 refine Ue (M6 l) ?_ ((zN l).trans (List.mergeSort_perm l _).symm);have:=List.pairwise_mergeSort (le:=fun x y:Int=>decide (x≤y)) (fun a b c h1 h2=>by simp at *;omega) (fun a b=>by simp;omega) l
 exact this.imp (by simp)
def afH(k b cap:Nat)(zs:List Int):Value :=
 match k with
 |0=>.tuple #[]
 |_=>.slice (some ⟨b,0,none⟩) (dedup zs).length cap
theorem Df:∀l:List Int,(dedup l).length≤l.length
 |[]=>Nat.le_refl _
 |[x]=>Nat.le_refl _
 |x::y::r=>by
  have:=Df (y::r);simp only[dedup];cases x==y<;>simp at * <;> omega
theorem M7(k:Nat)(zs:List Int):(tC k zs).length=zs.length:=by
 unfold tC;split
 ·exact(zN zs).length_eq
 ·have:=Df zs
  simp;omega
theorem Uf:∀{vs:List V} {zs:List Int},vO vs=some zs→vs=zs.map (V.int .i64)
 |[],zs,h=>by simp[vO]at h;subst h;rfl
 |v::vs,zs,h=>by
  unfold vO at h;split at h
  ·rename_i e;cases e
  ·rename_i n Cg e
   cases e;split at h
   ·rename_i zs' h'
    cases h;rw[Uf h'];rfl
   ·cases h
  ·cases h
section
variable {P:Program} {E:Entry} {g g':Gh} {S S':St} {a:Act} {w w':World}
structure Written(w w':World)(b:Nat)(c':Array Value)(e:TypeId):Prop where
 os:w'.os=w.os
 tape:w'.tape=w.tape
 output:w'.output=w.output
 size:w.heap.size≤w'.heap.size
 same:∀i,i≠b→i<w.heap.size→w'.heap[i]?=w.heap[i]?
 at_:w'.heap[b]?=some (.cells c' e (0,0))
theorem afI{b:Nat}{c':Array Value}{e:TypeId}(hw:Written w w' b c' e)(hm:g.m b=0)(xe:E.w0.heap.size≤b∨∃i,i<E.N0∧E.g0.ow b=.aF i)(Ez:∀p q,g.ow b≠.cell p q)(hR:R E g S a w) :
  Touch E g S w g S.bg S.aF.length w' b none none where
 os:=hw.os
 tape:=hw.tape
 output:=hw.output
 size:=hw.size
 heap:=fun i hi bA=>hw.same i hi bA
 m:=fun _ _=>rfl
 ow:=fun _ _=>rfl
 κ:=fun _ _=>rfl
 cp:=fun _ _=>rfl
 τ:=fun _ _=>rfl
 T:=fun _ _=>rfl
 γ:=fun _ _=>rfl
 eN:=Nat.le_refl _
 γnew:=fun i a b=>absurd a (by omega)
 fresh:=xe.imp (fun z=>z) .inl
 ib:=fun p q _ e=>absurd e (Ez p q)
 lv:=fun i e=>hR.Cd e (Nat.le_refl _)
 jK:=fun o y ho _=>absurd ho (by omega)
 oV:=fun _=>Nat.le_refl _
theorem R.written(hR:R E g S a w){id:Nat}{cs dQ:List V}(fw:look id S.aU=some cs){c':Array Value}{e:TypeId}(hw:Written w w' (g.κ id) c' e)(fC:g.cp id≤c'.size)(cg:cs≠[])
  (ei:∀(j:Nat) (v:V),dQ[j]?=some v→v.cI=true∧∃y,c'[j]?=some y∧aZ (S.cx g w) v y) :
  R E g { S with aU:=(id,dQ)::S.aU } a w'∧∀v x,aZ (S.cx g w) v x→aZ (S.cx g w') v x:=by
 obtain⟨cA,gf,hm,_⟩:=(hR.aU id cs fw).resolve_left (fun h=>cg h.1);have tt:=afI (S:=S) hw hm (.inl gf) (fun _ _ e=>by rw[cA]at e;cases e) hR
 have hk:∀i,iU (S.cx g w) ⟨w'.heap,g,S.aF.length,S.bg⟩ i:=fun i=>tt.keeps hR (fun e=>by cases e) (fun e=>by cases e) (fun _ e=>by rw[cA]at e;cases e)
 refine⟨R.nK tt hR rfl rfl (fun i=>.inl (hk i)) (fun s v hs=>.inl hs) (fun i gz hi=>?_) (fun f k b hf hb=>.inl ⟨(fun e=>by cases e),fun _ e=>by rw[cA]at e;cases e⟩)
  (fun i o hi=>.inl ⟨hi,fun _=>⟨fun e=>(by rw[cA]at e;cases e),fun _ e=>(by rw[cA]at e;cases e)⟩⟩),fun v x h=>h.mono tt.le fun i=>.inl (hk i)⟩
 rw[dA]at hi;by_cases jk:id=i
 ·subst jk
  rw[if_pos rfl]at hi;cases hi;refine .inr ⟨cA,gf,hm,c',e,hw.at_,fC,fun j u hu=>?_⟩;obtain⟨q1,y,q2,q3⟩:=ei j u hu;exact⟨q1,y,q2,q3.mono tt.le fun i=>.inl (hk i)⟩
 ·rw[if_neg jk]at hi
  exact .inl ⟨hi,(fun e=>by cases e),fun _ e=>jk (by rw[cA]at e;cases e;rfl)⟩
structure LD(P:Program)(k:Nat)(f:FuncId):Prop where
 fn:∃fn,P.funcs[f]?=some fn∧fn.body.isSome=true∧(fn.name== "runtime.NumGoroutine")=false
 run:∀(w:World) (b cap:Nat) (zs:List Int) (c:Array Value) (e:TypeId),w.heap[b]?=some (.cells c e (0,0))→(∀(j:Nat) z,zs[j]?=some z→c[j]?=some (.int .i64 z))→zs.length≤cap→cap≤c.size→zs.length≤lim →
  Calls P f #[.slice (some ⟨b,0,none⟩) zs.length cap] w fun r w'=>r=.returned (afH k b cap zs)∧∃c',Written w w' b c' e∧c'.size=c.size ∧
   (∀(j:Nat) z,(tC k zs)[j]?=some z→c'[j]?=some (.int .i64 z))∧∀j,zs.length≤j→c'[j]?=c[j]?
theorem adF{o:Oper}{f q:Operand}{ts:Array TypeId}{k i:Nat}{mQ:FuncId}{x:bq}(ho:o.op=.call ⟨.value f,#[q],ts⟩)(hf:a.eval f=.func (.func mQ) #[] #[])(hq:bO q x=true)(hm:LD P k mQ)
  (hR:R E g S a w) (hd:∀d,o.dst=some d→d<E.nt) (ah:S.mut k i o.dst (S.ev x)=some S'):cb P E o S S' a w:=by
 unfold St.mut at ah;split at ah
 ·rename_i id s n hx
  split at ah
  ·rename_i cs fw
   cases hc:(id==i&&(s==1)&&Nat.ble n cs.length&&Nat.ble n lim&&Nat.blt 0 n) with
   |false=>simp[hc]at ah
   |true =>
    simp only[hc,cond_true]at ah;simp only[Bool.and_eq_true,beq_iff_eq]at hc;obtain⟨⟨⟨⟨rfl,rfl⟩,hn⟩,rQ⟩,gM⟩:=hc;have gM:0<n:=by simpa [Nat.blt_eq] using gM
    have cg:cs≠[]:=fun e=>by subst e;have:=Nat.le_of_ble_eq_true hn;simp at this;omega
    have hn:=Nat.le_of_ble_eq_true hn;have rQ:=Nat.le_of_ble_eq_true rQ;split at ah
    ·rename_i zs nM
     cases ah;have nM:=Uf nM;have hlen:zs.length=n:=by
      have:=congrArg List.length nM;simp at this;omega
     obtain⟨cA,gf,Ba,c,e,hh,fC,hj⟩:=(hR.aU id cs fw).resolve_left (fun h=>cg h.1);obtain⟨cap,eA,u7,ex⟩:=(pO (cQ hR hq hx)).resolve_right (fun h=>by omega)
     have u7:cap*1=g.cp id:=u7;have ex:a.eval q=.slice (some ⟨g.κ id,0,none⟩) n cap:=ex;obtain⟨fn,qC,uY,pg⟩:=hm.fn;have gp:(execOp a.eval o).run P w=.ok (.enter mQ (#[q].map a.eval)) w:=by
      simp[execOp,ho,resolve,hf,Deferred.ofValue,invoke,callFunc,qC];simp at pg;cases hb:fn.body with
      |none=>simp[hb]at uY
      |some c=>simp[pg]
     have iX:∀(j:Nat) z,zs[j]?=some z→c[j]?=some (.int .i64 z):=fun j z hz=>by
      have C9:j<n:=by rw[←hlen];exact eK hz
      have hv:cs[j]?=some (.int .i64 z):=by
       have:(cs.take n)[j]?=some (.int .i64 z):=by rw[nM];simp[hz]
       rw[List.getElem?_take,if_pos C9]at this;exact this
      obtain⟨_,y,hy,hr⟩:=hj j _ hv;rw[hy,lY hr]
     intro K Q hK;unfold Oper.wp;rw[gp,Oper.upon_enter];have xF:=hm.run w (g.κ id) cap zs c e hh iX (by omega) (by omega) (by omega)
     rw[show #[q].map a.eval = #[.slice (some ⟨g.κ id,0,none⟩) zs.length cap] from by simp[ex,hlen]]
     refine xF.mono fun r w' ⟨he,c',hw,eb,lK,lg⟩=>?_;subst he;have hml:=M7 k zs;obtain⟨r1,r2⟩:=hR.written fw (dQ:=(tC k zs).map (V.int .i64)++cs.drop n) hw (by omega) cg (fun j v hv=>by
      rw[List.getElem?_append]at hv;simp only[List.length_map,hml,hlen]at hv;split at hv
      ·simp only[List.getElem?_map,Option.map_eq_some_iff]at hv
       obtain⟨z,hz,rfl⟩:=hv;exact⟨rfl,_,lK j z hz,.plain (.int _ _) (tH rfl)⟩
      ·rename_i C9
       rw[List.getElem?_drop,show n+(j-n)=j from by omega]at hv
       obtain⟨q1,y,q2,q3⟩:=hj j v hv;exact⟨q1,y,by rw[lg j (by omega)];exact q2,q3⟩)
     refine hK g _ _ (r1.put hd ?_);cases k with
     |zero=>exact .tuple _ _ rfl (fun i v x hv _=>by simp at hv)
     |succ k=>exact aZ.bQ (X:=({ S with aU:=(id,(tC (k+1) zs).map (V.int .i64)++cs.drop n)::S.aU }:St).cx g w') id 1 (dedup zs).length cap (by have:=Df zs;omega) u7
    ·cases ah
  ·cases ah
 ·cases ah
structure M8(P:Program)(f:FuncId):Prop where
 fn:∃fn,P.funcs[f]?=some fn∧fn.body.isSome=true∧(fn.name== "runtime.NumGoroutine")=false
 run:∀(w:World) (n:Int),0≤n→n≤lim→Calls P f #[.slice none 0 0,.int .i64 n] w fun r w'=>(r=.returned (.slice none 0 0)∧w'=w) ∨
  ∃c e cap,r=.returned (.slice (some ⟨w.heap.size,0,none⟩) 0 cap)∧w'.heap=w.heap.push (.cells c e (0,0))∧w'.os=w.os∧w'.tape=w.tape∧w'.output=w.output∧cap*1≤c.size
def qD(P:Program)(k:Nat)(f:FuncId):Prop:=match k with|2=>M8 P f|k=>LD P k f
theorem adC{o:Oper}{f p q:Operand}{ts:Array TypeId}{id:Nat}{mQ:FuncId}{x:bq}{C:bw}(ho:o.op=.call ⟨.value f,#[p,q],ts⟩)(hf:a.eval f=.func (.func mQ) #[] #[])(hp:bO p (.c .bV)=true)(hq:bO q x=true)(hm:M8 P mQ)(hn:S.eG id)
  (hR:R E g S a w) (hd:∀d,o.dst=some d→d<E.nt) (ah:VO.run C o.dst S (.grow mQ id x)=some S'):cb P E o S S' a w:=by
 simp only[VO.run]at ah;split at ah
 ·rename_i n hx
  cases hc:(decide (0≤n)&&decide (n≤(lim:Int))) with
  |false=>simp[hc]at ah
  |true =>
   simp only[hc,cond_true]at ah;simp only[Bool.and_eq_true,decide_eq_true_eq]at hc;cases ah;have e1:=lY (cQ hR hq hx);have e2:=nG (cQ hR hp rfl);obtain⟨fn,qC,uY,pg⟩:=hm.fn;have gp:(execOp a.eval o).run P w=.ok (.enter mQ (#[p,q].map a.eval)) w:=by
    simp[execOp,ho,resolve,hf,Deferred.ofValue,invoke,callFunc,qC];simp at pg;cases hb:fn.body with
    |none=>simp[hb]at uY
    |some c=>simp[pg]
   intro K Q hK;unfold Oper.wp;rw[gp,Oper.upon_enter];have xF:=hm.run w n hc.1 hc.2;rw[show #[p,q].map a.eval = #[.slice none 0 0,.int .i64 n] from by simp[e1,e2]]
   refine xF.mono fun r w' h=>?_;rcases h with⟨rfl,rfl⟩ | ⟨c,e,cap,rfl,h1,h2,h3,h4,h5⟩
   ·obtain⟨g',r1,_,r2,_⟩:=hR.H3 hn 0
    exact hK g' _ _ (r1.put hd (.pM _ _ (.inl rfl) r2))
   ·obtain⟨g',r1,r2,r3⟩:=hR.newObj (cpn:=cap*1) (hcpn:=h5) hn h1 h2 h3 h4 (cs:=[]) (fun j v hj=>by simp at hj)
    refine hK g' _ _ (r1.put hd ?_);rw[←r2];exact .bQ id 1 0 cap (Nat.zero_le _) r3.symm
 ·cases ah
end
end Go.Vm

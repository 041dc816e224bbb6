/- The value machine: functions of the library that write into a slice of ints. (Not yet wired into the operations.) -/
import Derived.Test.YtcelmhaoipbdiaaGreatVmR
namespace Go.Vm
set_option linter.all false
theorem RW(x:Int):∀l:List Int,(C1 x l).Perm (x::l)
 |[]=>.refl _
 |y::ys=>by
  simp only[C1];cases decide (x≤y) with
  |true=>exact .refl _
  |false=>exact((RW x ys).cons y).trans (.swap x y ys)
theorem B2:∀l:List Int,(oL l).Perm l
 |[]=>.refl _
 |x::xs=>(RW x _).trans ((B2 xs).cons x)
theorem ZO{x:Int}:∀{l:List Int},l.Pairwise (· ≤ ·)→(C1 x l).Pairwise (· ≤ ·)
 |[],_=>by simp[C1]
 |y::ys,h=>by
  have hp:=xW.1 h;simp only[C1];by_cases Mr:x≤y
  ·simp only[Mr,decide_true,bM,xW]
   refine⟨fun z hz=>?_,hp.1,hp.2⟩;rcases jQ.1 hz with rfl|hz
   ·exact Mr
   ·exact Bb Mr (hp.1 z hz)
  ·simp only[Mr,decide_false,fu,xW]
   refine⟨fun z hz=>?_,ZO hp.2⟩;rcases jQ.1 ((RW x ys).mem_iff.1 hz) with rfl|hz
   ·omega
   ·exact hp.1 z hz
theorem RX:∀l:List Int,(oL l).Pairwise (· ≤ ·)
 |[]=>.nil
 |x::xs=>ZO (RX xs)
theorem ZP:∀{l m:List Int},l.Pairwise (· ≤ ·)→m.Pairwise (· ≤ ·)→l.Perm m→l=m
 |[],m,_,_,h=>(List.perm_nil.1 h.symm).symm
 |x::l,[],_,_,h=>by simpa using List.perm_nil.1 h
 |x::l,y::m,h1,h2,h=>by
  have p1:=xW.1 h1;have p2:=xW.1 h2;have e:x=y:=by
   have a:x∈y::m:=h.mem_iff.1 (by simp)
   have b:y∈x::l:=h.mem_iff.2 (by simp)
   rcases jQ.1 a with e|a
   ·exact e
   ·rcases jQ.1 b with e|b
    ·exact e.symm
    ·exact Int.le_antisymm (p1.1 y b) (p2.1 x a)
  subst e;rw[ZP p1.2 p2.2 (List.Perm.cons_inv h)]
theorem al4(l:List Int):oL l=l.mergeSort fun x y=>decide (x≤y):=by
 refine ZP (RX l) ?_ ((B2 l).trans (List.mergeSort_perm l _).symm);have:=List.pairwise_mergeSort (le:=fun x y:Int=>decide (x≤y)) (fun a b c h1 h2=>by simp at *;omega) (fun a b=>by simp;omega) l
 exact this.imp (by simp)
def al5(k b cap:Nat)(zs:List Int):Value :=
 match k with
 |0=>.tuple #[]
 |_=>.slice (some ⟨b,0,none⟩) (dedup zs).length cap
theorem FQ:∀l:List Int,(dedup l).length≤l.length
 |[]=>bY _
 |[x]=>bY _
 |x::y::r=>by
  have:=FQ (y::r);simp only[dedup];cases x==y<;>simp at * <;> omega
theorem RY(k:Nat)(zs:List Int):(vF k zs).length=zs.length:=by
 unfold vF;split
 ·exact(B2 zs).length_eq
 ·have:=FQ zs
  simp;omega
theorem ZQ:∀{vs:List V} {zs:List Int},yh vs=some zs→vs=zs.map (V.int .i64)
 |[],zs,h=>by simp[yh]at h;subst h;rfl
 |v::vs,zs,h=>by
  unfold yh at h;split at h
  ·rename_i e;cases e
  ·rename_i n EY e
   cases e;split at h
   ·rename_i zs' h'
    cases h;rw[ZQ h'];rfl
   ·cases h
  ·cases h
section
variable {P:Program} {E:Entry} {g g':Gh} {S S':St} {a:Act} {w w':World}
structure Written(w w':World)(b:Nat)(c':Array Value)(e:TypeId):Prop where
 os:w'.os=w.os
 tape:w'.tape=w.tape
 output:w'.output=w.output
 size:w.heap.size≤w'.heap.size
 same:∀i,i≠b→i<w.heap.size→w'.heap[i]?=w.heap[i]?
 at_:w'.heap[b]?=some (.cells c' e (0,0))
theorem al6{b:Nat}{c':Array Value}{e:TypeId}(hw:Written w w' b c' e)(hm:g.m b=0)(zZ:E.w0.heap.size≤b∨∃i,i<E.N0∧E.g0.ow b=.aD i)(HU:∀p q,g.ow b≠.cell p q)(hR:R E g S a w) :
  Touch E g S w g S.bl S.aD.length w' b none none where
 os:=hw.os
 tape:=hw.tape
 output:=hw.output
 size:=hw.size
 heap:=fun i hi bI=>hw.same i hi bI
 m:=fun _ _=>rfl
 ow:=fun _ _=>rfl
 κ:=fun _ _=>rfl
 cp:=fun _ _=>rfl
 τ:=fun _ _=>rfl
 T:=fun _ _=>rfl
 γ:=fun _ _=>rfl
 eW:=bY _
 γnew:=fun i a b=>absurd a (by omega)
 fresh:=zZ.imp (fun z=>z) .inl
 iW:=fun p q _ e=>absurd e (HU p q)
 lv:=fun i e=>hR.EU e (bY _)
 kN:=fun o y ho _=>absurd ho (by omega)
 qH:=fun _=>bY _
theorem R.written(hR:R E g S a w){id:Nat}{cs ei:List V}(fM:look id S.aZ=some cs){c':Array Value}{e:TypeId}(hw:Written w w' (g.κ id) c' e)(fY:g.cp id≤c'.size)(cq:cs≠[])
  (eX:∀(j:Nat) (v:V),ei[j]?=some v→v.cQ=true∧∃y,c'[j]?=some y∧bf (S.cx g w) v y) :
  R E g { S with aZ:=(id,ei)::S.aZ } a w'∧∀v x,bf (S.cx g w) v x→bf (S.cx g w') v x:=by
 obtain⟨cB,gN,hm,_⟩:=(hR.aZ id cs fM).resolve_left (fun h=>cq h.1);have tt:=al6 (S:=S) hw hm (.inl gN) (fun _ _ e=>by rw[cB]at e;cases e) hR
 have hk:∀i,jB (S.cx g w) ⟨w'.heap,g,S.aD.length,S.bl⟩ i:=fun i=>tt.keeps hR (fun e=>by cases e) (fun e=>by cases e) (fun _ e=>by rw[cB]at e;cases e)
 refine⟨R.oQ tt hR rfl rfl (fun i=>.inl (hk i)) (fun s v hs=>.inl hs) (fun i ig hi=>?_) (fun f k b hf hb=>.inl ⟨(fun e=>by cases e),fun _ e=>by rw[cB]at e;cases e⟩)
  (fun i o hi=>.inl ⟨hi,fun _=>⟨fun e=>(by rw[cB]at e;cases e),fun _ e=>(by rw[cB]at e;cases e)⟩⟩),fun v x h=>h.mono tt.le fun i=>.inl (hk i)⟩
 rw[dL]at hi;by_cases ke:id=i
 ·subst ke
  rw[aK rfl]at hi;cases hi;refine .inr ⟨cB,gN,hm,c',e,hw.at_,fY,fun j u hu=>?_⟩;obtain⟨q1,y,q2,q3⟩:=eX j u hu;exact⟨q1,y,q2,q3.mono tt.le fun i=>.inl (hk i)⟩
 ·rw[av ke]at hi
  exact .inl ⟨hi,(fun e=>by cases e),fun _ e=>ke (by rw[cB]at e;cases e;rfl)⟩
structure Qq(P:Program)(k:Nat)(f:FuncId):Prop where
 fn:∃fn,P.funcs[f]?=some fn∧fn.body.isSome=true∧(fn.name== "runtime.NumGoroutine")=false
 run:∀(w:World) (b cap:Nat) (zs:List Int) (c:Array Value) (e:TypeId),w.heap[b]?=some (.cells c e (0,0))→(∀(j:Nat) z,zs[j]?=some z→c[j]?=some (.int .i64 z))→zs.length≤cap→cap≤c.size→zs.length≤lim →
  Calls P f #[.slice (some ⟨b,0,none⟩) zs.length cap] w fun r w'=>r=.returned (al5 k b cap zs)∧∃c',Written w w' b c' e∧c'.size=c.size ∧
   (∀(j:Nat) z,(vF k zs)[j]?=some z→c'[j]?=some (.int .i64 z))∧∀j,zs.length≤j→c'[j]?=c[j]?
theorem ajR{o:Oper}{f q:Operand}{ts:Array TypeId}{k i:Nat}{og:FuncId}{x:bA}(ho:o.op=.call ⟨.value f,#[q],ts⟩)(hf:a.eval f=.func (.func og) #[] #[])(hq:bZ q x=true)(hm:Qq P k og)
  (hR:R E g S a w) (hd:∀d,o.dst=some d→d<E.nt) (ah:S.mut k i o.dst (S.ev x)=some S'):ct P E o S S' a w:=by
 unfold St.mut at ah;split at ah
 ·rename_i id s n hx
  split at ah
  ·rename_i cs fM
   cases hc:(id==i&&(s==1)&&Nat.ble n cs.length&&Nat.ble n lim&&Nat.blt 0 n) with
   |false=>simp[hc]at ah
   |true =>
    simp only[hc,bM]at ah;simp only[b8,eg]at hc;obtain⟨⟨⟨⟨rfl,rfl⟩,hn⟩,tS⟩,gX⟩:=hc;have gX:0<n:=by simpa [CU] using gX
    have cq:cs≠[]:=fun e=>by subst e;have:=jk hn;simp at this;omega
    have hn:=jk hn;have tS:=jk tS;split at ah
    ·rename_i zs pE
     cases ah;have pE:=ZQ pE;have hlen:zs.length=n:=by
      have:=congrArg List.length pE;simp at this;omega
     obtain⟨cB,gN,B1,c,e,hh,fY,hj⟩:=(hR.aZ id cs fM).resolve_left (fun h=>cq h.1);obtain⟨cap,eK,xk,ex⟩:=(rT (c9 hR hq hx)).resolve_right (fun h=>by omega)
     have xk:cap*1=g.cp id:=xk;have ex:a.eval q=.slice (some ⟨g.κ id,0,none⟩) n cap:=ex;obtain⟨fn,sZ,xb,qQ⟩:=hm.fn;have fQ:(execOp a.eval o).run P w=.ok (.enter og (#[q].map a.eval)) w:=by
      simp[execOp,ho,resolve,hf,Deferred.ofValue,invoke,callFunc,sZ];simp at qQ;cases hb:fn.body with
      |none=>simp[hb]at xb
      |some c=>simp[qQ]
     have jT:∀(j:Nat) z,zs[j]?=some z→c[j]?=some (.int .i64 z):=fun j z hz=>by
      have FL:j<n:=by rw[←hlen];exact fa hz
      have hv:cs[j]?=some (.int .i64 z):=by
       have:(cs.take n)[j]?=some (.int .i64 z):=by rw[pE];simp[hz]
       rw[lN,aK FL]at this;exact this
      obtain⟨_,y,hy,hr⟩:=hj j _ hv;rw[hy,nh hr]
     intro K Q hK;unfold Oper.wp;rw[fQ,Oper.upon_enter];have Az:=hm.run w (g.κ id) cap zs c e hh jT (by omega) (by omega) (by omega)
     rw[show #[q].map a.eval = #[.slice (some ⟨g.κ id,0,none⟩) zs.length cap] from by simp[ex,hlen]]
     refine Az.mono fun r w' ⟨he,c',hw,eH,lR,mz⟩=>?_;subst he;have hml:=RY k zs;obtain⟨r1,r2⟩:=hR.written fM (ei:=(vF k zs).map (V.int .i64)++cs.drop n) hw (by omega) cq (fun j v hv=>by
      rw[qB]at hv;simp only[zJ,hml,hlen]at hv;split at hv
      ·simp only[vp,EP]at hv
       obtain⟨z,hz,rfl⟩:=hv;exact⟨rfl,_,lR j z hz,.plain (.int _ _) (uI rfl)⟩
      ·rename_i FL
       rw[oF,show n+(j-n)=j from by omega]at hv
       obtain⟨q1,y,q2,q3⟩:=hj j v hv;exact⟨q1,y,by rw[mz j (by omega)];exact q2,q3⟩)
     refine hK g _ _ (r1.put hd ?_);cases k with
     |zero=>exact .tuple _ _ rfl (fun i v x hv _=>by simp at hv)
     |succ k=>exact bf.bR (X:=({ S with aZ:=(id,(vF (k+1) zs).map (V.int .i64)++cs.drop n)::S.aZ }:St).cx g w') id 1 (dedup zs).length cap (by have:=FQ zs;omega) xk
    ·cases ah
  ·cases ah
 ·cases ah
structure RZ(P:Program)(f:FuncId):Prop where
 fn:∃fn,P.funcs[f]?=some fn∧fn.body.isSome=true∧(fn.name== "runtime.NumGoroutine")=false
 run:∀(w:World) (n:Int),0≤n→n≤lim→Calls P f #[.slice none 0 0,.int .i64 n] w fun r w'=>(r=.returned (.slice none 0 0)∧w'=w) ∨
  ∃c e cap,r=.returned (.slice (some ⟨w.heap.size,0,none⟩) 0 cap)∧w'.heap=w.heap.push (.cells c e (0,0))∧w'.os=w.os∧w'.tape=w.tape∧w'.output=w.output∧cap*1≤c.size
def H7(P:Program)(k:Nat)(f:FuncId):Prop:=match k with|2=>RZ P f|k=>Qq P k f
theorem ajN{o:Oper}{f p q:Operand}{ts:Array TypeId}{id:Nat}{og:FuncId}{x:bA}{C:bD}(ho:o.op=.call ⟨.value f,#[p,q],ts⟩)(hf:a.eval f=.func (.func og) #[] #[])(hp:bZ p (.c .bU)=true)(hq:bZ q x=true)(hm:RZ P og)(hn:S.fb id)
  (hR:R E g S a w) (hd:∀d,o.dst=some d→d<E.nt) (ah:VO.run C o.dst S (.grow og id x)=some S'):ct P E o S S' a w:=by
 simp only[VO.run]at ah;split at ah
 ·rename_i n hx
  cases hc:(decide (0≤n)&&decide (n≤(lim:Int))) with
  |false=>simp[hc]at ah
  |true =>
   simp only[hc,bM]at ah;simp only[b8,kA]at hc;cases ah;have e1:=nh (c9 hR hq hx);have e2:=pB (c9 hR hp rfl);obtain⟨fn,sZ,xb,qQ⟩:=hm.fn;have fQ:(execOp a.eval o).run P w=.ok (.enter og (#[p,q].map a.eval)) w:=by
    simp[execOp,ho,resolve,hf,Deferred.ofValue,invoke,callFunc,sZ];simp at qQ;cases hb:fn.body with
    |none=>simp[hb]at xb
    |some c=>simp[qQ]
   intro K Q hK;unfold Oper.wp;rw[fQ,Oper.upon_enter];have Az:=hm.run w n hc.1 hc.2;rw[show #[p,q].map a.eval = #[.slice none 0 0,.int .i64 n] from by simp[e1,e2]]
   refine Az.mono fun r w' h=>?_;rcases h with⟨rfl,rfl⟩ | ⟨c,e,cap,rfl,h1,h2,h3,h4,h5⟩
   ·obtain⟨g',r1,_,r2,_⟩:=hR.LR hn 0
    exact hK g' _ _ (r1.put hd (.rP _ _ (.inl rfl) r2))
   ·obtain⟨g',r1,r2,r3⟩:=hR.newObj (cpn:=cap*1) (hcpn:=h5) hn h1 h2 h3 h4 (cs:=[]) (fun j v hj=>by simp at hj)
    refine hK g' _ _ (r1.put hd ?_);rw[←r2];exact .bR id 1 0 cap (xZ _) r3.symm
 ·cases ah
end
end Go.Vm

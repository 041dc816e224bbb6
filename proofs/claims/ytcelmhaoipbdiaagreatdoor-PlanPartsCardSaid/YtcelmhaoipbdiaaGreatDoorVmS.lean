/- The value machine: functions of the library that write into a slice of ints. (Not yet wired into the operations.) -/
import Derived.Test.YtcelmhaoipbdiaaGreatDoorVmR
namespace Go.Vm
set_option linter.all false
theorem OP(x:Int):∀l:List Int,(A6 x l).Perm (x::l)
 |[]=>.refl _
 |y::ys=>by
  simp only[A6];cases decide (x≤y) with
  |true=>exact .refl _
  |false=>exact((OP x ys).cons y).trans (.swap x y ys)
theorem An:∀l:List Int,(nz l).Perm l
 |[]=>.refl _
 |x::xs=>(OP x _).trans ((An xs).cons x)
theorem V7{x:Int}:∀{l:List Int},l.Pairwise (· ≤ ·)→(A6 x l).Pairwise (· ≤ ·)
 |[],_=>by simp[A6]
 |y::ys,h=>by
  have hp:=wD.1 h;simp only[A6];by_cases J3:x≤y
  ·simp only[J3,decide_true,bC,wD]
   refine⟨fun z hz=>?_,hp.1,hp.2⟩;rcases ko.1 hz with rfl|hz
   ·exact J3
   ·exact y9 J3 (hp.1 z hz)
  ·simp only[J3,decide_false,eV,wD]
   refine⟨fun z hz=>?_,V7 hp.2⟩;rcases ko.1 ((OP x ys).mem_iff.1 hz) with rfl|hz
   ·omega
   ·exact hp.1 z hz
theorem OQ:∀l:List Int,(nz l).Pairwise (· ≤ ·)
 |[]=>.nil
 |x::xs=>V7 (OQ xs)
theorem V8:∀{l m:List Int},l.Pairwise (· ≤ ·)→m.Pairwise (· ≤ ·)→l.Perm m→l=m
 |[],m,_,_,h=>(List.perm_nil.1 h.symm).symm
 |x::l,[],_,_,h=>by simpa using List.perm_nil.1 h
 |x::l,y::m,h1,h2,h=>by
  have p1:=wD.1 h1;have p2:=wD.1 h2;have e:x=y:=by
   have a:x∈y::m:=h.mem_iff.1 (by simp)
   have b:y∈x::l:=h.mem_iff.2 (by simp)
   rcases ko.1 a with e|a
   ·exact e
   ·rcases ko.1 b with e|b
    ·exact e.symm
    ·exact Int.le_antisymm (p1.1 y b) (p2.1 x a)
  subst e;rw[V8 p1.2 p2.2 (List.Perm.cons_inv h)]
theorem agS(l:List Int):nz l=l.mergeSort fun x y=>decide (x≤y):=by
 refine V8 (OQ l) ?_ ((An l).trans (List.mergeSort_perm l _).symm);have:=List.pairwise_mergeSort (le:=fun x y:Int=>decide (x≤y)) (fun a b c h1 h2=>by simp at *;omega) (fun a b=>by simp;omega) l
 exact this.imp (by simp)
def agT(k b cap:Nat)(zs:List Int):Value :=
 match k with
 |0=>.tuple #[]
 |_=>.slice (some ⟨b,0,none⟩) (dedup zs).length cap
theorem DM:∀l:List Int,(dedup l).length≤l.length
 |[]=>bR _
 |[x]=>bR _
 |x::y::r=>by
  have:=DM (y::r);simp only[dedup];cases x==y<;>simp at * <;> omega
theorem OR(k:Nat)(zs:List Int):(ua k zs).length=zs.length:=by
 unfold ua;split
 ·exact(An zs).length_eq
 ·have:=DM zs
  simp;omega
theorem V9:∀{vs:List V} {zs:List Int},wH vs=some zs→vs=zs.map (V.int .i64)
 |[],zs,h=>by simp[wH]at h;subst h;rfl
 |v::vs,zs,h=>by
  unfold wH at h;split at h
  ·rename_i e;cases e
  ·rename_i n CS e
   cases e;split at h
   ·rename_i zs' h'
    cases h;rw[V9 h'];rfl
   ·cases h
  ·cases h
section
variable {P:Program} {E:Entry} {g g':Gh} {S S':St} {a:Act} {w w':World}
structure Written(w w':World)(b:Nat)(c':Array Value)(e:TypeId):Prop where
 os:w'.os=w.os
 tape:w'.tape=w.tape
 output:w'.output=w.output
 size:w.heap.size≤w'.heap.size
 same:∀i,i≠b→i<w.heap.size→w'.heap[i]?=w.heap[i]?
 at_:w'.heap[b]?=some (.cells c' e (0,0))
theorem agU{b:Nat}{c':Array Value}{e:TypeId}(hw:Written w w' b c' e)(hm:g.m b=0)(xJ:E.w0.heap.size≤b∨∃i,i<E.N0∧E.g0.ow b=.ay i)(FA:∀p q,g.ow b≠.cell p q)(hR:R E g S a w) :
  Touch E g S w g S.bf S.ay.length w' b none none where
 os:=hw.os
 tape:=hw.tape
 output:=hw.output
 size:=hw.size
 heap:=fun i hi bB=>hw.same i hi bB
 m:=fun _ _=>rfl
 ow:=fun _ _=>rfl
 κ:=fun _ _=>rfl
 cp:=fun _ _=>rfl
 τ:=fun _ _=>rfl
 T:=fun _ _=>rfl
 γ:=fun _ _=>rfl
 eD:=bR _
 γnew:=fun i a b=>absurd a (by omega)
 fresh:=xJ.imp (fun z=>z) .inl
 hY:=fun p q _ e=>absurd e (FA p q)
 lv:=fun i e=>hR.CO e (bR _)
 jJ:=fun o y ho _=>absurd ho (by omega)
 pC:=fun _=>bR _
theorem R.written(hR:R E g S a w){id:Nat}{cs dQ:List V}(ff:look id S.aW=some cs){c':Array Value}{e:TypeId}(hw:Written w w' (g.κ id) c' e)(fJ:g.cp id≤c'.size)(cf:cs≠[])
  (eB:∀(j:Nat) (v:V),dQ[j]?=some v→v.cI=true∧∃y,c'[j]?=some y∧aZ (S.cx g w) v y) :
  R E g { S with aW:=(id,dQ)::S.aW } a w'∧∀v x,aZ (S.cx g w) v x→aZ (S.cx g w') v x:=by
 obtain⟨cj,fU,hm,_⟩:=(hR.aW id cs ff).resolve_left (fun h=>cf h.1);have tt:=agU (S:=S) hw hm (.inl fU) (fun _ _ e=>by rw[cj]at e;cases e) hR
 have hk:∀i,iM (S.cx g w) ⟨w'.heap,g,S.ay.length,S.bf⟩ i:=fun i=>tt.keeps hR (fun e=>by cases e) (fun e=>by cases e) (fun _ e=>by rw[cj]at e;cases e)
 refine⟨R.nB tt hR rfl rfl (fun i=>.inl (hk i)) (fun s v hs=>.inl hs) (fun i kA hi=>?_) (fun f k b hf hb=>.inl ⟨(fun e=>by cases e),fun _ e=>by rw[cj]at e;cases e⟩)
  (fun i o hi=>.inl ⟨hi,fun _=>⟨fun e=>(by rw[cj]at e;cases e),fun _ e=>(by rw[cj]at e;cases e)⟩⟩),fun v x h=>h.mono tt.le fun i=>.inl (hk i)⟩
 rw[dj]at hi;by_cases jk:id=i
 ·subst jk
  rw[aP rfl]at hi;cases hi;refine .inr ⟨cj,fU,hm,c',e,hw.at_,fJ,fun j u hu=>?_⟩;obtain⟨q1,y,q2,q3⟩:=eB j u hu;exact⟨q1,y,q2,q3.mono tt.le fun i=>.inl (hk i)⟩
 ·rw[aA jk]at hi
  exact .inl ⟨hi,(fun e=>by cases e),fun _ e=>jk (by rw[cj]at e;cases e;rfl)⟩
structure Nl(P:Program)(k:Nat)(f:FuncId):Prop where
 fn:∃fn,P.funcs[f]?=some fn∧fn.body.isSome=true∧(fn.name== "runtime.NumGoroutine")=false
 run:∀(w:World) (b cap:Nat) (zs:List Int) (c:Array Value) (e:TypeId),w.heap[b]?=some (.cells c e (0,0))→(∀(j:Nat) z,zs[j]?=some z→c[j]?=some (.int .i64 z))→zs.length≤cap→cap≤c.size→zs.length≤lim →
  Calls P f #[.slice (some ⟨b,0,none⟩) zs.length cap] w fun r w'=>r=.returned (agT k b cap zs)∧∃c',Written w w' b c' e∧c'.size=c.size ∧
   (∀(j:Nat) z,(ua k zs)[j]?=some z→c'[j]?=some (.int .i64 z))∧∀j,zs.length≤j→c'[j]?=c[j]?
theorem aeJ{o:Oper}{f q:Operand}{ts:Array TypeId}{k i:Nat}{m8:FuncId}{x:bp}(ho:o.op=.call ⟨.value f,#[q],ts⟩)(hf:a.eval f=.func (.func m8) #[] #[])(hq:bO q x=true)(hm:Nl P k m8)
  (hR:R E g S a w) (hd:∀d,o.dst=some d→d<E.nt) (ah:S.mut k i o.dst (S.ev x)=some S'):cd P E o S S' a w:=by
 unfold St.mut at ah;split at ah
 ·rename_i id s n hx
  split at ah
  ·rename_i cs ff
   cases hc:(id==i&&(s==1)&&Nat.ble n cs.length&&Nat.ble n lim&&Nat.blt 0 n) with
   |false=>simp[hc]at ah
   |true =>
    simp only[hc,bC]at ah;simp only[bQ,dO]at hc;obtain⟨⟨⟨⟨rfl,rfl⟩,hn⟩,sw⟩,gR⟩:=hc;have gR:0<n:=by simpa [A0] using gR
    have cf:cs≠[]:=fun e=>by subst e;have:=iD hn;simp at this;omega
    have hn:=iD hn;have sw:=iD sw;split at ah
    ·rename_i zs oe
     cases ah;have oe:=V9 oe;have hlen:zs.length=n:=by
      have:=congrArg List.length oe;simp at this;omega
     obtain⟨cj,fU,GG,c,e,hh,fJ,hj⟩:=(hR.aW id cs ff).resolve_left (fun h=>cf h.1);obtain⟨cap,en,vI,ex⟩:=(qa (cS hR hq hx)).resolve_right (fun h=>by omega)
     have vI:cap*1=g.cp id:=vI;have ex:a.eval q=.slice (some ⟨g.κ id,0,none⟩) n cap:=ex;obtain⟨fn,pJ,vx,pK⟩:=hm.fn;have fh:(execOp a.eval o).run P w=.ok (.enter m8 (#[q].map a.eval)) w:=by
      simp[execOp,ho,resolve,hf,Deferred.ofValue,invoke,callFunc,pJ];simp at pK;cases hb:fn.body with
      |none=>simp[hb]at vx
      |some c=>simp[pK]
     have iX:∀(j:Nat) z,zs[j]?=some z→c[j]?=some (.int .i64 z):=fun j z hz=>by
      have DH:j<n:=by rw[←hlen];exact eJ hz
      have hv:cs[j]?=some (.int .i64 z):=by
       have:(cs.take n)[j]?=some (.int .i64 z):=by rw[oe];simp[hz]
       rw[kn,aP DH]at this;exact this
      obtain⟨_,y,hy,hr⟩:=hj j _ hv;rw[hy,lX hr]
     intro K Q hK;unfold Oper.wp;rw[fh,Oper.upon_enter];have yt:=hm.run w (g.κ id) cap zs c e hh iX (by omega) (by omega) (by omega)
     rw[show #[q].map a.eval = #[.slice (some ⟨g.κ id,0,none⟩) zs.length cap] from by simp[ex,hlen]]
     refine yt.mono fun r w' ⟨he,c',hw,ec,ku,lb⟩=>?_;subst he;have hml:=OR k zs;obtain⟨r1,r2⟩:=hR.written ff (dQ:=(ua k zs).map (V.int .i64)++cs.drop n) hw (by omega) cf (fun j v hv=>by
      rw[pj]at hv;simp only[xr,hml,hlen]at hv;split at hv
      ·simp only[tN,CL]at hv
       obtain⟨z,hz,rfl⟩:=hv;exact⟨rfl,_,ku j z hz,.plain (.int _ _) (tc rfl)⟩
      ·rename_i DH
       rw[nT,show n+(j-n)=j from by omega]at hv
       obtain⟨q1,y,q2,q3⟩:=hj j v hv;exact⟨q1,y,by rw[lb j (by omega)];exact q2,q3⟩)
     refine hK g _ _ (r1.put hd ?_);cases k with
     |zero=>exact .tuple _ _ rfl (fun i v x hv _=>by simp at hv)
     |succ k=>exact aZ.bP (X:=({ S with aW:=(id,(ua (k+1) zs).map (V.int .i64)++cs.drop n)::S.aW }:St).cx g w') id 1 (dedup zs).length cap (by have:=DM zs;omega) vI
    ·cases ah
  ·cases ah
 ·cases ah
structure OS(P:Program)(f:FuncId):Prop where
 fn:∃fn,P.funcs[f]?=some fn∧fn.body.isSome=true∧(fn.name== "runtime.NumGoroutine")=false
 run:∀(w:World) (n:Int),0≤n→n≤lim→Calls P f #[.slice none 0 0,.int .i64 n] w fun r w'=>(r=.returned (.slice none 0 0)∧w'=w) ∨
  ∃c e cap,r=.returned (.slice (some ⟨w.heap.size,0,none⟩) 0 cap)∧w'.heap=w.heap.push (.cells c e (0,0))∧w'.os=w.os∧w'.tape=w.tape∧w'.output=w.output∧cap*1≤c.size
def FP(P:Program)(k:Nat)(f:FuncId):Prop:=match k with|2=>OS P f|k=>Nl P k f
theorem aeF{o:Oper}{f p q:Operand}{ts:Array TypeId}{id:Nat}{m8:FuncId}{x:bp}{C:br}(ho:o.op=.call ⟨.value f,#[p,q],ts⟩)(hf:a.eval f=.func (.func m8) #[] #[])(hp:bO p (.c .b9)=true)(hq:bO q x=true)(hm:OS P m8)(hn:S.eM id)
  (hR:R E g S a w) (hd:∀d,o.dst=some d→d<E.nt) (ah:VO.run C o.dst S (.grow m8 id x)=some S'):cd P E o S S' a w:=by
 simp only[VO.run]at ah;split at ah
 ·rename_i n hx
  cases hc:(decide (0≤n)&&decide (n≤(lim:Int))) with
  |false=>simp[hc]at ah
  |true =>
   simp only[hc,bC]at ah;simp only[bQ,jA]at hc;cases ah;have e1:=lX (cS hR hq hx);have e2:=nY (cS hR hp rfl);obtain⟨fn,pJ,vx,pK⟩:=hm.fn;have fh:(execOp a.eval o).run P w=.ok (.enter m8 (#[p,q].map a.eval)) w:=by
    simp[execOp,ho,resolve,hf,Deferred.ofValue,invoke,callFunc,pJ];simp at pK;cases hb:fn.body with
    |none=>simp[hb]at vx
    |some c=>simp[pK]
   intro K Q hK;unfold Oper.wp;rw[fh,Oper.upon_enter];have yt:=hm.run w n hc.1 hc.2;rw[show #[p,q].map a.eval = #[.slice none 0 0,.int .i64 n] from by simp[e1,e2]]
   refine yt.mono fun r w' h=>?_;rcases h with⟨rfl,rfl⟩ | ⟨c,e,cap,rfl,h1,h2,h3,h4,h5⟩
   ·obtain⟨g',r1,_,r2,_⟩:=hR.Jw hn 0
    exact hK g' _ _ (r1.put hd (.p8 _ _ (.inl rfl) r2))
   ·obtain⟨g',r1,r2,r3⟩:=hR.newObj (cpn:=cap*1) (hcpn:=h5) hn h1 h2 h3 h4 (cs:=[]) (fun j v hj=>by simp at hj)
    refine hK g' _ _ (r1.put hd ?_);rw[←r2];exact .bP id 1 0 cap (xu _) r3.symm
 ·cases ah
end
end Go.Vm

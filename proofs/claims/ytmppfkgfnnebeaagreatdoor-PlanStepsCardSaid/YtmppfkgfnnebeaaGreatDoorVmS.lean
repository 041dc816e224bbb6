/- The value machine: functions of the library that write into a slice of ints. (Not yet wired into the operations.) -/
import Derived.Test.YtmppfkgfnnebeaaGreatDoorVmR
namespace Go.Vm
set_option linter.all false
theorem Q1(x:Int):∀l:List Int,(CB x l).Perm (x::l)
 |[]=>.refl _
 |y::ys=>by
  simp only[CB];cases decide (x≤y) with
  |true=>exact .refl _
  |false=>exact((Q1 x ys).cons y).trans (.swap x y ys)
theorem BH:∀l:List Int,(ox l).Perm l
 |[]=>.refl _
 |x::xs=>(Q1 x _).trans ((BH xs).cons x)
theorem YZ{x:Int}:∀{l:List Int},l.Pairwise (· ≤ ·)→(CB x l).Pairwise (· ≤ ·)
 |[],_=>by simp[CB]
 |y::ys,h=>by
  have hp:=te.1 h;simp only[CB];by_cases LY:x≤y
  ·simp only[LY,decide_true,bG,te]
   refine⟨fun z hz=>?_,hp.1,hp.2⟩;rcases jB.1 hz with rfl|hz
   ·exact LY
   ·exact AU LY (hp.1 z hz)
  ·simp only[LY,decide_false,eD,te]
   refine⟨fun z hz=>?_,YZ hp.2⟩;rcases jB.1 ((Q1 x ys).mem_iff.1 hz) with rfl|hz
   ·omega
   ·exact hp.1 z hz
theorem Q2:∀l:List Int,(ox l).Pairwise (· ≤ ·)
 |[]=>.nil
 |x::xs=>YZ (Q2 xs)
theorem Y0:∀{l m:List Int},l.Pairwise (· ≤ ·)→m.Pairwise (· ≤ ·)→l.Perm m→l=m
 |[],m,_,_,h=>(List.perm_nil.1 h.symm).symm
 |x::l,[],_,_,h=>by simpa using List.perm_nil.1 h
 |x::l,y::m,h1,h2,h=>by
  have p1:=te.1 h1;have p2:=te.1 h2;have e:x=y:=by
   have a:x∈y::m:=h.mem_iff.1 (by simp)
   have b:y∈x::l:=h.mem_iff.2 (by simp)
   rcases jB.1 a with e|a
   ·exact e
   ·rcases jB.1 b with e|b
    ·exact e.symm
    ·exact Int.le_antisymm (p1.1 y b) (p2.1 x a)
  subst e;rw[Y0 p1.2 p2.2 (List.Perm.cons_inv h)]
theorem alh(l:List Int):ox l=l.mergeSort fun x y=>decide (x≤y):=by
 refine Y0 (Q2 l) ?_ ((BH l).trans (List.mergeSort_perm l _).symm);have:=List.pairwise_mergeSort (le:=fun x y:Int=>decide (x≤y)) (fun a b c h1 h2=>by simp at *;omega) (fun a b=>by simp;omega) l
 exact this.imp (by simp)
def ali(k b cap:Nat)(zs:List Int):Value :=
 match k with
 |0=>.tuple #[]
 |_=>.slice (some ⟨b,0,none⟩) (dedup zs).length cap
theorem Fo:∀l:List Int,(dedup l).length≤l.length
 |[]=>bV _
 |[x]=>bV _
 |x::y::r=>by
  have:=Fo (y::r);simp only[dedup];cases x==y<;>simp at * <;> omega
theorem Q3(k:Nat)(zs:List Int):(vn k zs).length=zs.length:=by
 unfold vn;split
 ·exact(BH zs).length_eq
 ·have:=Fo zs
  simp;omega
theorem Y1:∀{vs:List V} {zs:List Int},yd vs=some zs→vs=zs.map (V.int .i64)
 |[],zs,h=>by simp[yd]at h;subst h;rfl
 |v::vs,zs,h=>by
  unfold yd at h;split at h
  ·rename_i e;cases e
  ·rename_i n Ev e
   cases e;split at h
   ·rename_i zs' h'
    cases h;rw[Y1 h'];rfl
   ·cases h
  ·cases h
section
variable {P:Program} {E:Entry} {g g':Gh} {S S':St} {a:Act} {w w':World}
structure Written(w w':World)(b:Nat)(c':Array Value)(e:TypeId):Prop where
 os:w'.os=w.os
 tape:w'.tape=w.tape
 output:w'.output=w.output
 size:w.heap.size≤w'.heap.size
 same:∀i,i≠b→i<w.heap.size→w'.heap[i]?=w.heap[i]?
 at_:w'.heap[b]?=some (.cells c' e (0,0))
theorem alj{b:Nat}{c':Array Value}{e:TypeId}(hw:Written w w' b c' e)(hm:g.m b=0)(zJ:E.w0.heap.size≤b∨∃i,i<E.N0∧E.g0.ow b=.aA i)(Hz:∀p q,g.ow b≠.cell p q)(hR:R E g S a w) :
  Touch E g S w g S.bj S.aA.length w' b none none where
 os:=hw.os
 tape:=hw.tape
 output:=hw.output
 size:=hw.size
 heap:=fun i hi bE=>hw.same i hi bE
 m:=fun _ _=>rfl
 ow:=fun _ _=>rfl
 κ:=fun _ _=>rfl
 cp:=fun _ _=>rfl
 τ:=fun _ _=>rfl
 T:=fun _ _=>rfl
 γ:=fun _ _=>rfl
 eK:=bV _
 γnew:=fun i a b=>absurd a (by omega)
 fresh:=zJ.imp (fun z=>z) .inl
 iq:=fun p q _ e=>absurd e (Hz p q)
 lv:=fun i e=>hR.Er e (bV _)
 kb:=fun o y ho _=>absurd ho (by omega)
 qn:=fun _=>bV _
theorem R.written(hR:R E g S a w){id:Nat}{cs dS:List V}(eO:look id S.aW=some cs){c':Array Value}{e:TypeId}(hw:Written w w' (g.κ id) c' e)(fU:g.cp id≤c'.size)(cf:cs≠[])
  (ew:∀(j:Nat) (v:V),dS[j]?=some v→v.cL=true∧∃y,c'[j]?=some y∧bb (S.cx g w) v y) :
  R E g { S with aW:=(id,dS)::S.aW } a w'∧∀v x,bb (S.cx g w) v x→bb (S.cx g w') v x:=by
 obtain⟨cr,fZ,hm,_⟩:=(hR.aW id cs eO).resolve_left (fun h=>cf h.1);have tt:=alj (S:=S) hw hm (.inl fZ) (fun _ _ e=>by rw[cr]at e;cases e) hR
 have hk:∀i,jg (S.cx g w) ⟨w'.heap,g,S.aA.length,S.bj⟩ i:=fun i=>tt.keeps hR (fun e=>by cases e) (fun e=>by cases e) (fun _ e=>by rw[cr]at e;cases e)
 refine⟨R.oA tt hR rfl rfl (fun i=>.inl (hk i)) (fun s v hs=>.inl hs) (fun i kX hi=>?_) (fun f k b hf hb=>.inl ⟨(fun e=>by cases e),fun _ e=>by rw[cr]at e;cases e⟩)
  (fun i o hi=>.inl ⟨hi,fun _=>⟨fun e=>(by rw[cr]at e;cases e),fun _ e=>(by rw[cr]at e;cases e)⟩⟩),fun v x h=>h.mono tt.le fun i=>.inl (hk i)⟩
 rw[dz]at hi;by_cases jH:id=i
 ·subst jH
  rw[aM rfl]at hi;cases hi;refine .inr ⟨cr,fZ,hm,c',e,hw.at_,fU,fun j u hu=>?_⟩;obtain⟨q1,y,q2,q3⟩:=ew j u hu;exact⟨q1,y,q2,q3.mono tt.le fun i=>.inl (hk i)⟩
 ·rw[ay jH]at hi
  exact .inl ⟨hi,(fun e=>by cases e),fun _ e=>jH (by rw[cr]at e;cases e;rfl)⟩
structure PA(P:Program)(k:Nat)(f:FuncId):Prop where
 fn:∃fn,P.funcs[f]?=some fn∧fn.body.isSome=true∧(fn.name== "runtime.NumGoroutine")=false
 run:∀(w:World) (b cap:Nat) (zs:List Int) (c:Array Value) (e:TypeId),w.heap[b]?=some (.cells c e (0,0))→(∀(j:Nat) z,zs[j]?=some z→c[j]?=some (.int .i64 z))→zs.length≤cap→cap≤c.size→zs.length≤lim →
  Calls P f #[.slice (some ⟨b,0,none⟩) zs.length cap] w fun r w'=>r=.returned (ali k b cap zs)∧∃c',Written w w' b c' e∧c'.size=c.size ∧
   (∀(j:Nat) z,(vn k zs)[j]?=some z→c'[j]?=some (.int .i64 z))∧∀j,zs.length≤j→c'[j]?=c[j]?
theorem ai7{o:Oper}{f q:Operand}{ts:Array TypeId}{k i:Nat}{nR:FuncId}{x:bw}(ho:o.op=.call ⟨.value f,#[q],ts⟩)(hf:a.eval f=.func (.func nR) #[] #[])(hq:bU q x=true)(hm:PA P k nR)
  (hR:R E g S a w) (hd:∀d,o.dst=some d→d<E.nt) (hrun:S.mut k i o.dst (S.ev x)=some S'):ch P E o S S' a w:=by
 unfold St.mut at hrun;split at hrun
 ·rename_i id s n hx
  split at hrun
  ·rename_i cs eO
   cases hc:(id==i&&(s==1)&&Nat.ble n cs.length&&Nat.ble n lim&&Nat.blt 0 n) with
   |false=>simp[hc]at hrun
   |true =>
    simp only[hc,bG]at hrun;simp only[bS,dO]at hc;obtain⟨⟨⟨⟨rfl,rfl⟩,hn⟩,tH⟩,gy⟩:=hc;have gy:0<n:=by simpa [AZ] using gy
    have cf:cs≠[]:=fun e=>by subst e;have:=il hn;simp at this;omega
    have hn:=il hn;have tH:=il tH;split at hrun
    ·rename_i zs o0
     cases hrun;have o0:=Y1 o0;have hlen:zs.length=n:=by
      have:=congrArg List.length o0;simp at this;omega
     obtain⟨cr,fZ,Iv,c,e,hh,fU,hj⟩:=(hR.aW id cs eO).resolve_left (fun h=>cf h.1);obtain⟨cap,eo,xg,ex⟩:=(qR (cY hR hq hx)).resolve_right (fun h=>by omega)
     have xg:cap*1=g.cp id:=xg;have ex:a.eval q=.slice (some ⟨g.κ id,0,none⟩) n cap:=ex;obtain⟨fn,qw,w7,qx⟩:=hm.fn;have fq:(execOp a.eval o).run P w=.ok (.enter nR (#[q].map a.eval)) w:=by
      simp[execOp,ho,resolve,hf,Deferred.ofValue,invoke,callFunc,qw];simp at qx;cases hb:fn.body with
      |none=>simp[hb]at w7
      |some c=>simp[qx]
     have jw:∀(j:Nat) z,zs[j]?=some z→c[j]?=some (.int .i64 z):=fun j z hz=>by
      have Ad:j<n:=by rw[←hlen];exact eQ hz
      have hv:cs[j]?=some (.int .i64 z):=by
       have:(cs.take n)[j]?=some (.int .i64 z):=by rw[o0];simp[hz]
       rw[iP,aM Ad]at this;exact this
      obtain⟨_,y,hy,hr⟩:=hj j _ hv;rw[hy,mI hr]
     intro K Q hK;unfold Oper.wp;rw[fq,Oper.upon_enter];have Ae:=hm.run w (g.κ id) cap zs c e hh jw (by omega) (by omega) (by omega)
     rw[show #[q].map a.eval = #[.slice (some ⟨g.κ id,0,none⟩) zs.length cap] from by simp[ex,hlen]]
     refine Ae.mono fun r w' ⟨he,c',hw,eg,kT,lP⟩=>?_;subst he;have hml:=Q3 k zs;obtain⟨r1,r2⟩:=hR.written eO (dS:=(vn k zs).map (V.int .i64)++cs.drop n) hw (by omega) cf (fun j v hv=>by
      rw[oQ]at hv;simp only[wF,hml,hlen]at hv;split at hv
      ·simp only[vN,En]at hv
       obtain⟨z,hz,rfl⟩:=hv;exact⟨rfl,_,kT j z hz,.plain (.int _ _) (um rfl)⟩
      ·rename_i Ad
       rw[mn,show n+(j-n)=j from by omega]at hv
       obtain⟨q1,y,q2,q3⟩:=hj j v hv;exact⟨q1,y,by rw[lP j (by omega)];exact q2,q3⟩)
     refine hK g _ _ (r1.put hd ?_);cases k with
     |zero=>exact .tuple _ _ rfl (fun i v x hv _=>by simp at hv)
     |succ k=>exact bb.bR (X:=({ S with aW:=(id,(vn (k+1) zs).map (V.int .i64)++cs.drop n)::S.aW }:St).cx g w') id 1 (dedup zs).length cap (by have:=Fo zs;omega) xg
    ·cases hrun
  ·cases hrun
 ·cases hrun
structure Q4(P:Program)(f:FuncId):Prop where
 fn:∃fn,P.funcs[f]?=some fn∧fn.body.isSome=true∧(fn.name== "runtime.NumGoroutine")=false
 run:∀(w:World) (n:Int),0≤n→n≤lim→Calls P f #[.slice none 0 0,.int .i64 n] w fun r w'=>(r=.returned (.slice none 0 0)∧w'=w) ∨
  ∃c e cap,r=.returned (.slice (some ⟨w.heap.size,0,none⟩) 0 cap)∧w'.heap=w.heap.push (.cells c e (0,0))∧w'.os=w.os∧w'.tape=w.tape∧w'.output=w.output∧cap*1≤c.size
def JP(P:Program)(k:Nat)(f:FuncId):Prop:=match k with|2=>Q4 P f|k=>PA P k f
theorem ai3{o:Oper}{f p q:Operand}{ts:Array TypeId}{id:Nat}{nR:FuncId}{x:bw}{C:bD}(ho:o.op=.call ⟨.value f,#[p,q],ts⟩)(hf:a.eval f=.func (.func nR) #[] #[])(hp:bU p (.c .cb)=true)(hq:bU q x=true)(hm:Q4 P nR)(hn:S.eN id)
  (hR:R E g S a w) (hd:∀d,o.dst=some d→d<E.nt) (hrun:VO.run C o.dst S (.grow nR id x)=some S'):ch P E o S S' a w:=by
 simp only[VO.run]at hrun;split at hrun
 ·rename_i n hx
  cases hc:(decide (0≤n)&&decide (n≤(lim:Int))) with
  |false=>simp[hc]at hrun
  |true =>
   simp only[hc,bG]at hrun;simp only[bS,iD]at hc;cases hrun;have e1:=mI (cY hR hq hx);have e2:=oV (cY hR hp rfl);obtain⟨fn,qw,w7,qx⟩:=hm.fn;have fq:(execOp a.eval o).run P w=.ok (.enter nR (#[p,q].map a.eval)) w:=by
    simp[execOp,ho,resolve,hf,Deferred.ofValue,invoke,callFunc,qw];simp at qx;cases hb:fn.body with
    |none=>simp[hb]at w7
    |some c=>simp[qx]
   intro K Q hK;unfold Oper.wp;rw[fq,Oper.upon_enter];have Ae:=hm.run w n hc.1 hc.2;rw[show #[p,q].map a.eval = #[.slice none 0 0,.int .i64 n] from by simp[e1,e2]]
   refine Ae.mono fun r w' h=>?_;rcases h with⟨rfl,rfl⟩ | ⟨c,e,cap,rfl,h1,h2,h3,h4,h5⟩
   ·obtain⟨g',r1,_,r2,_⟩:=hR.Ln hn 0
    exact hK g' _ _ (r1.put hd (.qP _ _ (.inl rfl) r2))
   ·obtain⟨g',r1,r2,r3⟩:=hR.newObj (cpn:=cap*1) (hcpn:=h5) hn h1 h2 h3 h4 (cs:=[]) (fun j v hj=>by simp at hj)
    refine hK g' _ _ (r1.put hd ?_);rw[←r2];exact .bR id 1 0 cap (y7 _) r3.symm
 ·cases hrun
end
end Go.Vm

/- - -/
import Derived.Test.YtabckmbjnjnegaaGreatDoorVmR
namespace Go.Vm
set_option linter.all false
def UB(x:Int):∀l:List Int,(Ew x l).Perm (x::l)
 |[]=>.refl _
 |y::ys=>by
  simp only[Ew];cases decide (x<=y) with
  |true=>exact .refl _
  |false=>exact((UB x ys).cons y).trans (.swap x y ys)
def DD:∀l:List Int,(qg l).Perm l
 |[]=>.refl _
 |x::xs=>(UB x _).trans ((DD xs).cons x)
def acx{x:Int}:∀{l:List Int},l.Pairwise (· <= ·)->(Ew x l).Pairwise (· <= ·)
 |[],_=>by simp[Ew]
 |y::ys,h=>by
  have hp:=rU.1 h;simp only[Ew];by_cases vP:x<=y
  .simp only[vP,decide_true,bW,rU]
   refine⟨λz hz=>?_,hp.1,hp.2⟩;rcases iA.1 hz with rfl|hz
   .exact vP
   .exact CE vP (hp.1 z hz)
  .simp only[vP,decide_false,gL,rU]
   refine⟨λz hz=>?_,acx hp.2⟩;rcases iA.1 ((UB x ys).mem_iff.1 hz) with rfl|hz
   .omega
   .exact hp.1 z hz
def UC:∀l:List Int,(qg l).Pairwise (· <= ·)
 |[]=>.nil
 |x::xs=>acx (UC xs)
def acy:∀{l m:List Int},l.Pairwise (· <= ·)->m.Pairwise (· <= ·)->l.Perm m->l=m
 |[],m,_,_,h=>(List.perm_nil.1 h.symm).symm
 |x::l,[],_,_,h=>by simpa using List.perm_nil.1 h
 |x::l,y::m,h1,h2,h=>by
  have p1:=rU.1 h1;have p2:=rU.1 h2;have e:x=y:=by
   have a:x∈y::m:=h.mem_iff.1 (by simp)
   have b:y∈x::l:=h.mem_iff.2 (by simp)
   rcases iA.1 a with e|a
   .exact e
   .rcases iA.1 b with e|b
    .exact e.symm
    .exact Int.le_antisymm (p1.1 y b) (p2.1 x a)
  subst e;rw[acy p1.2 p2.2 (List.Perm.cons_inv h)]
def apS(l:List Int):qg l=l.mergeSort λx y=>decide (x<=y):=by
 refine acy (UC l) ?_ ((DD l).trans (List.mergeSort_perm l _).symm);have:=List.pairwise_mergeSort (le:=λx y:Int=>decide (x<=y)) (λa b c h1 h2=>by simp at *;omega) (λa b=>by simp;omega) l
 exact this.imp (by simp)
def apT(k b cap:Nat)(zs:List Int):Value :=
 match k with
 |0=>.tuple #[]
 |_=>.slice (some ⟨b,0,none⟩) (dedup zs).length cap
def HI:∀l:List Int,(dedup l).length<=l.length
 |[]=>b8 _
 |[x]=>b8 _
 |x::y::r=>by
  have:=HI (y::r);simp only[dedup];cases x==y<;>simp at * <;> omega
def UD(k:Nat)(zs:List Int):(xC k zs).length=zs.length:=by
 unfold xC;split
 .exact(DD zs).length_eq
 .have:=HI zs
  simp;omega
def acz:∀{vs:List V} {zs:List Int},Af vs=some zs->vs=zs.map (V.int .i64)
 |[],zs,h=>by simp[Af]at h;subst h;rfl
 |v::vs,zs,h=>by
  unfold Af at h;split at h
  next e=>cases e
  next n GO e=>
   cases e;split at h
   next zs' h'=>
    cases h;rw[acz h'];rfl
   .cases h
  .cases h
section
variable {P:Program} {E:Entry} {g g':Gh} {S S':St} {a:Act} {w w':World}
structure Written(w w':World)(b:Nat)(c':Array Value)(e:TypeId):Prop where
 os:w'.os=w.os
 tape:w'.tape=w.tape
 output:w'.output=w.output
 size:w.heap.size<=w'.heap.size
 same:∀i,i≠b->i<w.heap.size->w'.heap[i]?=w.heap[i]?
 at_:w'.heap[b]?=some (.cells c' e (0,0))
variable{c':Array Value}{e:TypeId}
def apU{b:Nat}(hw:Written w w' b c' e)(hm:g.m b=0)(Bk:E.w0.heap.size<=b\/∃i,i<E.N0/\E.g0.ow b=.aC i)(JU:∀p q,g.ow b≠.cell p q)(hR:R E g S a w) :
  Touch E g S w g S.bo S.aC.length w' b none none where
 os:=hw.os
 tape:=hw.tape
 output:=hw.output
 size:=hw.size
 heap:=λi hi bJ=>hw.same i hi bJ
 m:=λ_ _=>rfl
 ow:=λ_ _=>rfl
 κ:=λ_ _=>rfl
 cp:=λ_ _=>rfl
 τ:=λ_ _=>rfl
 T:=λ_ _=>rfl
 γ:=λ_ _=>rfl
 eZ:=b8 _
 γnew:=λi a b=>absurd a (by omega)
 fresh:=Bk.imp (λz=>z) .inl
 jw:=λp q _ e=>absurd e (JU p q)
 lv:=λi e=>hR.GK e (b8 _)
 mM:=λo y ho _=>absurd ho (by omega)
 sO:=λ_=>b8 _
variable{id:Nat}
def R.written(hR:R E g S a w){cs ei:List V}(fb:look id S.aY=some cs)(hw:Written w w' (g.κ id) c' e)(gM:g.cp id<=c'.size)(cy:cs≠[])
  (eR:∀(j:Nat) (v:V),ei[j]?=some v->v.c5=true/\∃y,c'[j]?=some y/\bh (S.cx g w) v y) :
  R E g { S with aY:=(id,ei)::S.aY } a w'/\∀v x,bh (S.cx g w) v x->bh (S.cx g w') v x:=by
 obtain⟨cJ,hH,hm,_⟩:=(hR.aY id cs fb).resolve_left (λh=>cy h.1);have tt:=apU (S:=S) hw hm (.inl hH) (λ_ _ e=>by rw[cJ]at e;cases e) hR
 have hk:∀i,ke (S.cx g w) ⟨w'.heap,g,S.aC.length,S.bo⟩ i:=λi=>tt.keeps hR (λe=>by cases e) (λe=>by cases e) (λ_ e=>by rw[cJ]at e;cases e)
 refine⟨R.qk tt hR rfl rfl (λi=>.inl (hk i)) (λs v hs=>.inl hs) (λi mz hi=>?_) (λf k b hf hb=>.inl ⟨(λe=>by cases e),λ_ e=>by rw[cJ]at e;cases e⟩)
  (λi o hi=>.inl ⟨hi,λ_=>⟨λe=>(by rw[cJ]at e;cases e),λ_ e=>(by rw[cJ]at e;cases e)⟩⟩),λv x h=>h.mono tt.le λi=>.inl (hk i)⟩
 rw[dO]at hi;by_cases kK:id=i
 .subst kK
  rw[aJ rfl]at hi;cases hi;refine .inr ⟨cJ,hH,hm,c',e,hw.at_,gM,λj u hu=>?_⟩;obtain⟨q1,y,q2,q3⟩:=eR j u hu;exact⟨q1,y,q2,q3.mono tt.le λi=>.inl (hk i)⟩
 .rw[ax kK]at hi
  exact .inl ⟨hi,(λe=>by cases e),λ_ e=>kK (by rw[cJ]at e;cases e;rfl)⟩
structure S5(P:Program)(k:Nat)(f:FuncId):Prop where
 fn:∃fn,P.funcs[f]?=some fn/\fn.body.isSome=true/\(fn.name== "runtime.NumGoroutine")=false
 run:∀(w:World) (b cap:Nat) (zs:List Int) (c:Array Value) (e:TypeId),w.heap[b]?=some (.cells c e (0,0))->(∀(j:Nat) z,zs[j]?=some z->c[j]?=some (.int .i64 z))->zs.length<=cap->cap<=c.size->zs.length<=lim ->
  Calls P f #[.slice (some ⟨b,0,none⟩) zs.length cap] w λr w'=>r=.returned (apT k b cap zs)/\∃c',Written w w' b c' e/\c'.size=c.size /\
   (∀(j:Nat) z,(xC k zs)[j]?=some z->c'[j]?=some (.int .i64 z))/\∀j,zs.length<=j->c'[j]?=c[j]?
variable{o:Oper}{f q:Operand}{ts:Array TypeId}{pM:FuncId}
def anC{k i:Nat}{x:bG}(ho:o.op=.call ⟨.value f,#[q],ts⟩)(hf:a.eval f=.func (.func pM) #[] #[])(hq:cc q x=true)(hm:S5 P k pM)
  (hR:R E g S a w) (hd:∀d,o.dst=some d->d<E.nt) (hrun:S.mut k i o.dst (S.ev x)=some S'):cC P E o S S' a w:=by
 unfold St.mut at hrun;split at hrun
 next id s n hx=>
  split at hrun
  next cs fb=>
   cases hc:(id==i&&(s==1)&&Nat.ble n cs.length&&Nat.ble n lim&&Nat.blt 0 n) with
   |false=>simp[hc]at hrun
   |true =>
    simp only[hc,bW]at hrun;simp only[bZ,ec]at hc;obtain⟨⟨⟨⟨rfl,rfl⟩,hn⟩,vQ⟩,gR⟩:=hc;have gR:0<n:=by simpa [CN] using gR
    have cy:cs≠[]:=λe=>by subst e;have:=js hn;simp at this;omega
    have hn:=js hn;have vQ:=js vQ;split at hrun
    next zs qO=>
     cases hrun;have qO:=acz qO;have hlen:zs.length=n:=by
      have:=congrArg List.length qO;simp at this;omega
     obtain⟨cJ,hH,KM,c,e,hh,gM,hj⟩:=(hR.aY id cs fb).resolve_left (λh=>cy h.1);obtain⟨cap,eM,za,ex⟩:=(tH (di hR hq hx)).resolve_right (λh=>by omega)
     have za:cap*1=g.cp id:=za;have ex:a.eval q=.slice (some ⟨g.κ id,0,none⟩) n cap:=ex;obtain⟨fn,s7,yY,s8⟩:=hm.fn;have fR:(execOp a.eval o).run P w=.ok (.enter pM (#[q].map a.eval)) w:=by
      simp[execOp,ho,resolve,hf,Deferred.ofValue,invoke,callFunc,s7];simp at s8;cases hb:fn.body with
      |none=>simp[hb]at yY
      |some c=>simp[s8]
     have ky:∀(j:Nat) z,zs[j]?=some z->c[j]?=some (.int .i64 z):=λj z hz=>by
      have BG:j<n:=by rw[<-hlen];exact fg hz
      have hv:cs[j]?=some (.int .i64 z):=by
       have:(cs.take n)[j]?=some (.int .i64 z):=by rw[qO];simp[hz]
       rw[jP,aJ BG]at this;exact this
      obtain⟨_,y,hy,hr⟩:=hj j _ hv;rw[hy,oA hr]
     intro K Q hK;unfold Oper.wp;rw[fR,Oper.upon_enter];have BH:=hm.run w (g.κ id) cap zs c e hh ky (by omega) (by omega) (by omega)
     rw[show #[q].map a.eval = #[.slice (some ⟨g.κ id,0,none⟩) zs.length cap] from by simp[ex,hlen]]
     refine BH.mono λr w' ⟨he,c',hw,eF,mq,nx⟩=>?_;subst he;have hml:=UD k zs;obtain⟨r1,r2⟩:=hR.written fb (ei:=(xC k zs).map (V.int .i64)++cs.drop n) hw (by omega) cy (λj v hv=>by
      rw[rP]at hv;simp only[yy,hml,hlen]at hv;split at hv
      .simp only[xq,GG]at hv
       obtain⟨z,hz,rfl⟩:=hv;exact⟨rfl,_,mq j z hz,.plain (.int _ _) (wG rfl)⟩
      next BG=>
       rw[mJ,show n+(j-n)=j from by omega]at hv
       obtain⟨q1,y,q2,q3⟩:=hj j v hv;exact⟨q1,y,by rw[nx j (by omega)];exact q2,q3⟩)
     refine hK g _ _ (r1.put hd ?_);cases k with
     |zero=>exact .tuple _ _ rfl (λi v x hv _=>by simp at hv)
     |succ k=>exact bh.bY (X:=({ S with aY:=(id,(xC (k+1) zs).map (V.int .i64)++cs.drop n)::S.aY }:St).cx g w') id 1 (dedup zs).length cap (by have:=HI zs;omega) za
    .cases hrun
  .cases hrun
 .cases hrun
structure UE(P:Program)(f:FuncId):Prop where
 fn:∃fn,P.funcs[f]?=some fn/\fn.body.isSome=true/\(fn.name== "runtime.NumGoroutine")=false
 run:∀(w:World) (n:Int),0<=n->n<=lim->Calls P f #[.slice none 0 0,.int .i64 n] w λr w'=>(r=.returned (.slice none 0 0)/\w'=w) \/
  ∃c e cap,r=.returned (.slice (some ⟨w.heap.size,0,none⟩) 0 cap)/\w'.heap=w.heap.push (.cells c e (0,0))/\w'.os=w.os/\w'.tape=w.tape/\w'.output=w.output/\cap*1<=c.size
def J9(P:Program)(k:Nat)(f:FuncId):Prop:=match k with|2=>UE P f|k=>S5 P k f
def anx{p:Operand}{x:bG}{C:bI}(ho:o.op=.call ⟨.value f,#[p,q],ts⟩)(hf:a.eval f=.func (.func pM) #[] #[])(hp:cc p (.c .cj)=true)(hq:cc q x=true)(hm:UE P pM)(hn:S.fa id)
  (hR:R E g S a w) (hd:∀d,o.dst=some d->d<E.nt) (hrun:VO.run C o.dst S (.grow pM id x)=some S'):cC P E o S S' a w:=by
 simp only[VO.run]at hrun;split at hrun
 next n hx=>
  cases hc:(decide (0<=n)&&decide (n<=(lim:Int))) with
  |false=>simp[hc]at hrun
  |true =>
   simp only[hc,bW]at hrun;simp only[bZ,jD]at hc;cases hrun;have e1:=oA (di hR hq hx);have e2:=qK (di hR hp rfl);obtain⟨fn,s7,yY,s8⟩:=hm.fn;have fR:(execOp a.eval o).run P w=.ok (.enter pM (#[p,q].map a.eval)) w:=by
    simp[execOp,ho,resolve,hf,Deferred.ofValue,invoke,callFunc,s7];simp at s8;cases hb:fn.body with
    |none=>simp[hb]at yY
    |some c=>simp[s8]
   intro K Q hK;unfold Oper.wp;rw[fR,Oper.upon_enter];have BH:=hm.run w n hc.1 hc.2;rw[show #[p,q].map a.eval = #[.slice none 0 0,.int .i64 n] from by simp[e1,e2]]
   refine BH.mono λr w' h=>?_;rcases h with⟨rfl,rfl⟩ | ⟨c,e,cap,rfl,h1,h2,h3,h4,h5⟩
   .obtain⟨g',r1,_,r2,_⟩:=hR.Oc hn 0
    exact hK g' _ _ (r1.put hd (.tF _ _ (.inl rfl) r2))
   .obtain⟨g',r1,r2,r3⟩:=hR.newObj (cpn:=cap*1) (hcpn:=h5) hn h1 h2 h3 h4 (cs:=[]) (λj v hj=>by simp at hj)
    refine hK g' _ _ (r1.put hd ?_);rw[<-r2];exact .bY id 1 0 cap (A6 _) r3.symm
 .cases hrun
end

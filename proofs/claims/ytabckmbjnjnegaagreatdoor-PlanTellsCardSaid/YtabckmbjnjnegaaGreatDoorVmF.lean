/- - -/
import Derived.Test.YtabckmbjnjnegaaGreatDoorVmE
namespace Go.Vm
set_option linter.all false
def Ki{α:Type}{s:Nat}{v:α}{env:List (Nat×α)}:∀{l:List Nat},look s (xD env l)=some v->look s env=some v
 |[],h=>by simp[xD,look]at h
 |k::l,h=>by
  simp only[xD]at h;split at h
  next u hu=>
   rw[dO]at h;split at h
   next e=>subst e;cases h;exact hu
   .exact Ki h
  .exact Ki h
section
variable {P:Program} {E:Entry} {g g':Gh} {S S':St} {a:Act} {w w':World} {C:bI}
def R.keep(hR:R E g S a w)(k:dG):R E g (S.keep k) a w :=
 hR.sub (λ_ _ h=>Ki h) (λ_ _ h=>Ki h) (λ_ _ h=>Ki h) rfl
def y9:∀{ds:List Nat} {S S':St},S.clean ds=some S'->qp S' S/\∀d∈ds,S'.fa d
 |[],S,S',h=>by simp only[St.clean,Option.some.injEq]at h;subst h;exact⟨.refl S,by simp⟩
 |d::ds,S,S',h=>by
  simp only[St.clean]at h;cases hc:((S.env.filter λp => !(p.1==d)).all (λp => !p.2.cI d)&&(S.aY.filter λp => !(p.1==d)).all (λp=>p.2.all λv => !v.cQ d)) with
  |false=>rw[hc]at h;cases h
  |true =>
   rw[hc]at h;simp only[bW]at h;simp only[bZ,iW,xo]at hc;obtain⟨h1,h2⟩:=y9 h;have xR:qp ({ env:=S.env.filter λp => !(p.1==d),aY:=S.aY.filter λp => !(p.1==d),bo:=S.bo.filter λp => !(p.1==d),aC:=S.aC }:St) S:=by
    refine⟨λs v e=>?_,λs v e=>?_,λs v e=>?_,rfl⟩
    all_goals
     simp only[pd]at e;split at e
     .cases e
     .exact e
   refine⟨h1.trans xR,λx hx=>?_⟩;rcases iA.1 hx with e|e
   .subst e
    refine h1.fa ⟨λs v hs=>?_,λid cs ho=>?_,?_,?_⟩
    .exact hc.1 (s,v) (xK hs)
    .exact λv hv=>by have:=hc.2 (id,cs) (xK ho);simp only[iW,xo]at this;exact this v hv
    .show look x (S.aY.filter _)=none;rw[pd,aJ rfl]
    .show look x (S.bo.filter _)=none;rw[pd,aJ rfl]
   .exact h2 x e
variable{s cD sz:Nat}
def an5(hR:R E g S a w)(h:iP.run S (.norm s cD sz)=some S'):∃g',R E g' S' a w:=by
 simp only[iP.run]at h;split at h
 next hs=>
  split at h
  next S1 hc=>
   cases h;obtain⟨hl,hn⟩:=y9 hc;have xR:qp ({ S with env:=S.env.filter λp => !(p.1==s) }:St) S:=by
    refine⟨λk v e=>?_,λ_ _ e=>e,λ_ _ e=>e,rfl⟩;simp only[pd]at e;split at e
    .cases e
    .exact e
   obtain⟨x,hx,hr⟩:=hR.env s _ hs;have:=qK hr;subst this;obtain⟨g',r1,r2,_⟩:=(hR.less (hl.trans xR)).NA (hn cD (by simp))
   refine⟨g',⟨λk v hk=>?_,r1.aY,r1.bo,r1.aC,r1.defers,r1.kr,r1.same⟩⟩;rw[dO]at hk;split at hk
   next e=>
    subst e;cases hk;exact⟨_,hx,r2 sz _ (.inl rfl)⟩
   .exact r1.env k v hk
  .cases h
 next hs=>
  split at h
  next S1 hc=>
   cases h;obtain⟨hl,hn⟩:=y9 hc;have xR:qp ({ S with env:=S.env.filter λp => !(p.1==s) }:St) S:=by
    refine⟨λk v e=>?_,λ_ _ e=>e,λ_ _ e=>e,rfl⟩;simp only[pd]at e;split at e
    .cases e
    .exact e
   obtain⟨x,hx,hr⟩:=hR.env s _ hs;have hz:=wF hr;obtain⟨g',r1,r2,_⟩:=(hR.less (hl.trans xR)).NA (hn cD (by simp))
   refine⟨g',⟨λk v hk=>?_,r1.aY,r1.bo,r1.aC,r1.defers,r1.kr,r1.same⟩⟩;rw[dO]at hk;split at hk
   next e=>
    subst e;cases hk;exact⟨_,hx,r2 sz _ hz⟩
   .exact r1.env k v hk
  .cases h
 .cases h;exact⟨g,hR⟩
variable{id off:Nat}
def aaY(hR:R E g S a w)(h:S.pB id off cD sz=some S'):∃g',R E g' S' a w:=by
 simp only[St.pB]at h;split at h
 next cs eR=>
  split at h
  next ku=>
   split at h
   next S1 hc=>
    split at h
    next Dp By=>
     cases h;obtain⟨hl,hn⟩:=y9 hc;have eW:=hR.less hl;have an6:Dp=cs:=by
      have:=hl.aY id Dp By;rw[eR]at this;exact(Option.some.inj this).symm
     subst an6;obtain⟨g',r1,r2,r3⟩:=eW.NA (hn cD (by simp))
     refine⟨g',⟨r1.env,λi ei hi=>?_,r1.bo,r1.aC,r1.defers,r1.kr,r1.same⟩⟩;rw[dO]at hi;split at hi
     next e=>
      subst e;cases hi;rcases r1.aY id Dp By with h0 | ⟨h1,h2,h3,c,e,h4,gM,h5⟩
      .rw[h0.1]at ku;simp at ku
      refine .inr ⟨h1,h2,h3,c,e,h4,gM,λj v hj=>?_⟩;rw[lM]at hj;split at hj
      next ej=>
       subst ej;split at hj
       .cases hj
        obtain⟨_,y,h7,h8⟩:=h5 off _ ku;refine⟨rfl,y,h7,?_⟩;exact r2 sz _ (.inl (qK h8))
       .cases hj
      .exact h5 j v hj
     .exact r1.aY i ei hi
    .cases h
   .cases h
  .cases h;exact⟨g,hR⟩
 .cases h;exact⟨g,hR⟩
def an7(hR:R E g S a w)(h:iP.run S (.pB id off cD sz)=some S'):∃g',R E g' S' a w:=aaY hR h
def aaZ{α β:Type}{s:Nat}{f:α->β}:∀{l:List (Nat×α)},look s (l.map λp=>(p.1,f p.2))=(look s l).map f
 |[]=>rfl
 |(k,v)::l=>by
  simp only[nT,dO];split
  .rfl
  .exact aaZ
variable{i b:Nat}
def aob(hR:R E g S a w)(h:iP.run S (.kF i b)=some S'):∃g',R E g' S' a w:=by
 simp only[iP.run]at h;split at h
 next S1 hc=>
  obtain⟨hl,hn⟩:=y9 hc;have eW:=hR.less hl;have hn:=hn b (by simp)
  split at h
  next cs eR=>
   cases h;obtain⟨g',r1,r2,r3,_⟩:=eW.Kj hn eR;refine⟨g',⟨λs v hs=>?_,r1.aY,r1.bo,r1.aC,r1.defers,r1.kr,r1.same⟩⟩;have hs:look s (S1.env.map λp=>(p.1,V.kF i b p.2))=some v:=hs;rw[aaZ]at hs;cases hu:look s S1.env with
   |none=>simp[hu]at hs
   |some u =>
    simp only[hu,ox,Option.some.injEq]at hs;subst hs;obtain⟨x,hx,hr⟩:=eW.env s u hu;refine⟨x,hx,?_⟩;unfold V.kF;split
    next k sz n=>
     cases hk:k==i with
     |true =>
      have:=eq_of_beq hk;subst this;exact r2 _ _ _ hr
     |false=>exact r3 _ _ hr (hn.env s _ hu)
    .exact r3 _ _ hr (hn.env s _ hu)
  .cases h;exact⟨g,eW⟩
 .cases h
variable{sh:Sh}{x:Value}
def R.frozen(hR:R E g S a w){n:Nat}{es:List (List V)}(hr:bh (S.cx g w) (.bY id off n) x)(ly:S.uo sh (.bY id off n)=some es) :
  ∃g',R E g' { S with aY:=S.aY.filter λp => !(p.1==id) } a w/\bh (S.cx g' w) (.slice none sh.length es) x/\∀v x,bh (S.cx g w) v x->bh (S.cx g' w) v x:=by
 obtain⟨nC,n',he,hlen,wM⟩:=JK hR hr ly;cases he;rcases wM with⟨h0,hz⟩ | ⟨cap,eM,hx,c,e,hh,gy,Be,cJ,hH,hm⟩
 .subst h0
  obtain rfl:=pz.1 hlen;have xR:qp ({ S with aY:=S.aY.filter λp => !(p.1==id) }:St) S:=by
   refine⟨λ_ _ e=>e,λk v e=>?_,λ_ _ e=>e,rfl⟩;simp only[pd]at e;split at e
   .cases e
   .exact e
  refine⟨g,hR.less xR,.plain (by rcases hz with rfl | ⟨q,rfl⟩<;>first|exact .nil _ _|exact .empty _ _ q 0) (λ_ _ _ e=>by cases e),λv x hx=>hx.mono ⟨b8 _,λ_ _ _ _ h=>h,λ_ _=>b8 _,b8 _,λ_ _=>rfl⟩ λi=>.inl (ke.refl _ i)⟩
 let g':Gh:={ g with m:=du g.m (g.κ id) c.size,ow:=du g.ow (g.κ id) .none }
 have t:Touch E g S w g' S.bo S.aC.length w (g.κ id) none none :=
  {os:=rfl,tape:=rfl,output:=rfl,size:=b8 _,heap:=λ_ _ _=>rfl,m:=λb hb=>g9 _ _ hb,ow:=λb hb=>g9 _ _ hb,κ:=λ_ _=>rfl,cp:=λ_ _=>rfl,τ:=λ_ _=>rfl,T:=λ_ _=>rfl,
   γ:=λ_ _=>rfl,eZ:=b8 _,γnew:=λi a b=>absurd a (by omega),fresh:=.inl hH,jw:=λp q _ e=>by(have e:du g.ow (g.κ id) .none (g.κ id)=.cell p q:=e);rw[ea]at e;exact nomatch e
   lv:=λi e=>by(have e:du g.ow (g.κ id) .none (g.κ id)=.aC i:=e);rw[ea]at e;exact nomatch e
   mM:=λ_ _ _ h=>h,sO:=λ_=>by rw[hm];exact A6 _ }
 have hk:∀i,ke (S.cx g w) ⟨w.heap,g',S.aC.length,S.bo⟩ i:=λi=>t.keeps hR (λe=>by cases e) (λe=>by cases e) (λ_ e=>by rw[cJ]at e;cases e)
 have bJ:g.κ id<w.heap.size:=by
  rcases cS (g.κ id) w.heap.size with h|h
  .exact h
  .simp[ou h]at hh
 refine⟨g',R.qk t hR rfl rfl (λi=>.inl (hk i)) (λk v uA=>.inl uA) (λi ei hi=>?_) (λf k b hf hb=>.inl ⟨(λe=>by cases e),λ_ e=>by rw[cJ]at e;cases e⟩)
  (λi o hi=>.inl ⟨hi,λ_=>⟨λe=>(by rw[cJ]at e;cases e),λ_ e=>(by rw[cJ]at e;cases e)⟩⟩),?_,λv x hx=>hx.mono t.le λi=>.inl (hk i)⟩
 .have hi:look i (S.aY.filter λp => !(p.1==id))=some ei:=hi
  rw[pd]at hi;split at hi
  .cases hi
  next cy=>
   exact .inl ⟨hi,(λe=>by cases e),λ_ e=>cy (by rw[cJ]at e;cases e;rfl)⟩
 .subst hx
  rw[<-hlen];refine .plain (EE (m:=g'.m) (Be.mono t.le) bJ (by omega) (λj y hj=>?_) ?_ _) (λ_ _ _ e=>by cases e)
  .show cellAt w.heap (g.κ id) _=_
   rw[mn hh];rw[jP]at hj;split at hj
   .simpa using hj
   .cases hj
  .show _<=du g.m (g.κ id) c.size (g.κ id)
   rw[ea,hlen,kX];exact gy
def aoc(hR:R E g S a w)(h:iP.run S (.freeze s sh)=some S'):∃g',R E g' S' a w:=by
 simp only[iP.run]at h;split at h
 next id off n hs=>
  split at h
  next es ly=>
   cases h;obtain⟨x,hx,hr⟩:=hR.env s _ hs;obtain⟨g',r1,r2,_⟩:=hR.frozen hr ly;refine⟨g',⟨λk v hk=>?_,r1.aY,r1.bo,r1.aC,r1.defers,r1.kr,r1.same⟩⟩;rw[dO]at hk;split at hk
   next e=>
    subst e;cases hk;exact⟨x,hx,r2⟩
   .exact r1.env k v hk
  .cases h
 .cases h;exact⟨g,hR⟩
def aod(hR:R E g S a w)(h:iP.run S (.Np id off sh)=some S'):∃g',R E g' S' a w:=by
 simp only[iP.run]at h;split at h
 next cs eR=>
  split at h
  next i s n ku=>
   split at h
   next es ly=>
    cases kK:i==id with
    |true=>simp[kK]at h
    |false =>
     simp only[kK,gL]at h;cases h;have cy:id≠i:=λe=>by subst e;simp at kK
     obtain⟨_,_,_,c,e,hh,_,hj⟩:=(hR.aY id cs eR).resolve_left (λh0=>by rw[h0.1]at ku;simp at ku)
     obtain⟨_,y,hy,hr⟩:=hj off _ ku;obtain⟨g',r1,r2,r3⟩:=hR.frozen hr ly;have By:look id (S.aY.filter λp => !(p.1==i))=some cs:=by rw[pd,ax cy];exact eR
     refine⟨g',⟨r1.env,λk ei hk=>?_,r1.bo,r1.aC,r1.defers,r1.kr,r1.same⟩⟩;have hk:look k ((id,cs.set off (.slice none sh.length es))::(S.aY.filter λp => !(p.1==i)).filter λp => !(p.1==id))=some ei:=hk;rw[dO]at hk;by_cases lz:id=k
     .subst lz
      rw[aJ rfl]at hk;cases hk;obtain⟨h1,h2,h3,c',e',h4,gM,h5⟩:=(r1.aY id cs By).resolve_left (λh0=>by rw[h0.1]at ku;simp at ku)
      refine .inr ?_;have sR:g'.κ id=g.κ id:=by
       have:bh (S.cx g w) (.bn id 0) (.pointer (some ⟨g.κ id,0,none⟩)):=.bn id 0;have h6:=CY (r3 _ _ this);simp only[Value.pointer.injEq,Option.some.injEq,Addr.mk.injEq]at h6;exact h6.1.symm
      have za:c'=c:=by
       rw[sR,hh]at h4;cases h4;rfl
      subst za;refine⟨h1,h2,h3,c',e',h4,gM,λj v uB=>?_⟩;rw[lM]at uB;split at uB
      next ej=>
       subst ej;split at uB
       .cases uB
        exact⟨rfl,y,hy,r2⟩
       .cases uB
      .exact h5 j v uB
     .rw[ax lz,pd]at hk
      split at hk
      .cases hk
      .exact r1.aY k ei hk
   .cases h
  .cases h;exact⟨g,hR⟩
 .cases h;exact⟨g,hR⟩
def aa0(hR:R E g S a w){v:V}(hs:look s S.env=some v)(hz:∀x,bh (S.cx g w) v x->nn x)(h:S.tD s id sz=some S'):∃g',R E g' S' a w:=by
 unfold St.tD at h;split at h
 next S1 hc=>
  cases h;obtain⟨hl,hn⟩:=y9 hc;obtain⟨x,hx,hr⟩:=hR.env s _ hs;obtain⟨g',r1,_,r2,_⟩:=(hR.less (hl.trans Tw)).Oc (hn id (by simp)) 0
  refine⟨g',⟨λk v hk=>?_,r1.aY,r1.bo,r1.aC,r1.defers,r1.kr,r1.same⟩⟩;replace hk:look k ((s,.bY id sz 0)::S1.env)=some v:=hk;rw[dO]at hk;split at hk
  next e=>subst e;cases hk;exact⟨x,hx,.tF _ _ (hz x hr) r2⟩
  .exact r1.env k v hk
 .cases h
def aoe(hR:R E g S a w)(h:iP.run S (.tD s id sz)=some S'):∃g',R E g' S' a w:=by
 simp only[iP.run]at h;split at h
 next hs=>exact aa0 hR hs (λx hx=>.inl (qK hx)) h
 next hs=>exact aa0 hR hs (λx hx=>wF hx) h
 .cases h;exact⟨g,hR⟩
def aof(hR:R E g S a w)(h:iP.run S (.share s sh)=some S'):∃g',R E g' S' a w:=by
 simp only[iP.run]at h;split at h
 next id n len hs=>
  split at h
  next es S1 ly hc=>
   cases h;obtain⟨hl,hn⟩:=y9 hc;have hn:=hn id (by simp)
   have hl:=hl.trans Tw;obtain⟨x,hx,hr⟩:=hR.env s _ hs;obtain⟨nC,n',he,hlen,wM⟩:=JK hR hr ly;cases he;have eW:=hR.less hl;rcases wM with⟨h0,hz⟩ | ⟨cap,eM,sn,c,e,hh,gy,Be,cJ,hH,hm⟩
   .subst h0
    obtain rfl:=pz.1 hlen;have pe:R E g { S1 with env:=(s,.er 0)::S1.env } a w:=⟨λk v hk=>by
     replace hk:look k ((s,.er 0)::S1.env)=some v:=hk;rw[dO]at hk;split at hk
     next e=>subst e;cases hk;exact⟨x,hx,.er hz⟩
     .exact eW.env k v hk,eW.aY,eW.bo,eW.aC,eW.defers,eW.kr,eW.same⟩
    obtain⟨g',r⟩:=Od (n:=sh.length) pe (s:=s) (v:=.er 0) (by show look s ((s,.er 0)::S1.env)=_;rw[dO,aJ rfl]) (λx hx=>wF hx)
    refine⟨g',⟨λk v hk=>?_,r.aY,r.bo,r.aC,r.defers,r.kr,r.same⟩⟩;refine r.env k v ?_;replace hk:look k ((s,.cO S1.aC.length sh.length 0)::S1.env)=some v:=hk;show look k ((s,.cO S1.aC.length sh.length 0)::(s,.er 0)::S1.env)=some v;rw[dO]at hk ⊢;split at hk
    next e=>rw[aJ e];exact hk
    next e=>rw[ax e,dO,ax e];exact hk
   .obtain⟨f1,f2⟩:=Bu Be
    obtain⟨g',r1,r2,_⟩:=eW.Tx (id:=id) (n:=sh.length) hn cJ hH hm hh sn eM (us:=es.flatten) (λj v hv=>by
     obtain⟨q1,y,q2,q3⟩:=f2 j v hv;rw[jP]at q2;split at q2
     .exact⟨q1,y,by simpa using q2,q3⟩
     .cases q2)
    refine⟨g',⟨λk u hk=>?_,r1.aY,r1.bo,r1.aC,r1.defers,r1.kr,r1.same⟩⟩;replace hk:look k ((s,.cO S1.aC.length sh.length es.length)::S1.env)=some u:=hk;rw[dO]at hk;split at hk
    next e=>subst e;cases hk;rw[hlen];exact⟨x,hx,r2⟩
    .exact r1.env k u hk
  .cases h
 next hs=>cases h;exact Od hR hs (λx hx=>.inl (qK hx))
 next hs=>cases h;exact Od hR hs (λx hx=>wF hx)
 .cases h
def R.Ty(hR:R E g S a w){cs:List V}{v0 v1:V}(eR:look id S.aY=some cs)(ku:cs[off]?=some v0)(hc:v1.c5=true)(hx:∀y,bh (S.cx g w) v0 y->bh (S.cx g w) v1 y) :
  R E g { S with aY:=(id,cs.set off v1)::S.aY } a w :=
 ⟨hR.env,λk ei hk=>by
  replace hk:look k ((id,cs.set off v1)::S.aY)=some ei:=hk;rw[dO]at hk;split at hk
  next e=>
   subst e;cases hk;obtain⟨h1,h2,h3,c,e,h4,h5,h6⟩:=(hR.aY id cs eR).resolve_left (λh=>by rw[h.1]at ku;simp at ku)
   refine .inr ⟨h1,h2,h3,c,e,h4,h5,λj v hj=>?_⟩;rw[lM]at hj;split at hj
   next ej=>
    subst ej;split at hj
    .cases hj
     obtain⟨_,y,h7,h8⟩:=h6 off _ ku;exact⟨hc,y,h7,hx y h8⟩
    .cases hj
   .exact h6 j v hj
  .exact hR.aY k ei hk,hR.bo,hR.aC,hR.defers,hR.kr,hR.same⟩
def aa1{S S1:St}(hl:qp S1 S){cs Dp:List V}(h:look id S.aY=some cs)(h1:look id S1.aY=some Dp):Dp=cs:=by
 have:=hl.aY id Dp h1;rw[h]at this;exact(Option.some.inj this).symm
def aog(hR:R E g S a w)(h:iP.run S (.yL id off i sz)=some S'):∃g',R E g' S' a w:=by
 simp only[iP.run,St.yL]at h;split at h
 next cs eR=>
  split at h
  next ku=>
   split at h
   next S1 hc=>
    split at h
    next Dp By=>
     cases h;obtain⟨hl,hn⟩:=y9 hc;obtain rfl:=aa1 hl eR By;have hn:=hn i (by simp)
     obtain⟨g',r1,_,r2,_⟩:=(hR.less hl).Oc hn 0;have cy:i≠id:=λe=>by subst e;rw[hn.obj]at By;cases By
     exact⟨g',r1.Ty (v0:=.cj) (by show look id ((i,[])::S1.aY)=_;rw[dO,ax cy];exact By) ku rfl λy hy=>.tF _ _ (.inl (qK hy)) r2⟩
    .cases h
   .cases h
  .cases h;exact⟨g,hR⟩
 .cases h;exact⟨g,hR⟩
def aoh(hR:R E g S a w)(h:iP.run S (.CP i b id off)=some S'):∃g',R E g' S' a w:=by
 simp only[iP.run,St.CP]at h;split at h
 next ds so=>
  split at h
  next k s n ku=>
   cases Dq:(k==i && !(id==i)) with
   |false=>simp only[Dq,gL]at h;cases h;exact⟨g,hR⟩
   |true =>
    simp only[Dq,bW]at h;simp only[bZ,ec,xo,tC]at Dq;obtain⟨rfl,cy⟩:=Dq;split at h
    next S1 hc=>
     split at h
     next cs Tz eR Oe=>
      cases h;obtain⟨hl,hn⟩:=y9 hc;obtain rfl:=aa1 hl so Oe;have hn:=hn b (by simp)
      obtain⟨g',r1,_,_,r4⟩:=(hR.less hl).Kj hn eR;have Hp:b≠id:=λe=>by subst e;rw[hn.obj]at Oe;cases Oe
      refine⟨g',(r1.Ty (v0:=.bY k s n) (by show look id ((b,cs)::S1.aY.filter λp => !(p.1==k))=_;rw[dO,ax Hp,pd,ax cy];exact Oe) ku rfl λy hy=>r4 _ _ _ hy).less ⟨λ_ _ e=>e,λm v e=>?_,λ_ _ e=>e,rfl⟩⟩
      simp only at e ⊢;rw[dO]at e ⊢;split
      next e1=>rw[aJ e1]at e;exact e
      next e1=>
       rw[ax e1,dO]at e;rw[dO];split
       next e2=>rw[aJ e2]at e;exact e
       next e2=>
        rw[ax e2,pd,pd]at e;rw[pd];split at e
        .cases e
        next e3=>
         rw[ax e3];split at e
         .cases e
         .exact e
     .cases h
    .cases h
  .cases h;exact⟨g,hR⟩
 .cases h;exact⟨g,hR⟩
def aoi(hR:R E g S a w)(h:iP.run S (.CQ id off sh)=some S'):∃g',R E g' S' a w:=by
 simp only[iP.run,St.CQ]at h;split at h
 next ds so=>
  split at h
  next i s n ku=>
   cases Aj:(n==0) with
   |true =>
    simp only[Aj,bW]at h;cases h;have:=eq_of_beq Aj;subst this;refine⟨g,hR.Ty so ku rfl λy hy=>.plain ?_ (λ_ _ _ e=>by cases e)⟩
    rcases tH hy with⟨cap,_,_,rfl⟩ | ⟨_,rfl | ⟨q,rfl⟩,_⟩
    .exact .empty _ _ _ _
    .exact .nil _ _
    .exact .empty _ _ _ _
   |false =>
    simp only[Aj,gL]at h;split at h
    next es S1 ly hc=>
     cases kK:i==id with
     |true=>simp only[kK,bW]at h;cases h
     |false =>
      simp only[kK,gL]at h;cases h;have cy:i≠id:=λe=>by subst e;simp at kK
      obtain⟨hl,hn⟩:=y9 hc;have hn:=hn i (by simp)
      have xR:qp ({ S with aY:=S.aY.filter λp => !(p.1==id) }:St) S:=by
       refine⟨λ_ _ e=>e,λk v e=>?_,λ_ _ e=>e,rfl⟩;simp only[pd]at e;split at e
       .cases e
       .exact e
      have eW:=hR.less (hl.trans xR);obtain⟨o1,o2,o3,c,e,o4,o5,o6⟩:=(hR.aY id ds so).resolve_left (λh=>by rw[h.1]at ku;simp at ku)
      obtain⟨_,y,q1,q2⟩:=o6 off _ ku;obtain⟨nC,n',he,hlen,wM⟩:=JK hR q2 ly;cases he;obtain⟨cap,eM,sn,c',e',hh,gy,Be,cJ,hH,hm⟩:=wM.resolve_left (λh=>by rw[h.1]at Aj;simp at Aj)
      obtain⟨f1,f2⟩:=Bu Be;obtain⟨g',r1,r2,m1,m2,m3,m4,m5⟩:=eW.Tx (id:=i) (n:=sh.length) hn cJ hH hm hh sn eM (us:=es.flatten) (λj v hv=>by
       obtain⟨q1,y,q2,q3⟩:=f2 j v hv;rw[jP]at q2;split at q2
       .exact⟨q1,y,by simpa using q2,q3⟩
       .cases q2)
      refine⟨g',⟨r1.env,λk ei hk=>?_,r1.bo,r1.aC,r1.defers,r1.kr,r1.same⟩⟩;replace hk:look k ((id,ds.set off (.cO S1.aC.length sh.length n))::S1.aY)=some ei:=hk;rw[dO]at hk;split at hk
      next ee=>
       subst ee;cases hk;have sR:g.κ id≠g.κ i:=λh=>by
        rw[h,cJ]at o1;injection o1 with o1;exact cy o1
       refine .inr ⟨by rw[m2,m4 _ sR];exact o1,by rw[m2];exact o2,by rw[m1,m2];exact o3,c,e,by rw[m2];exact o4,by rw[m3];exact o5,λj v hj=>?_⟩
       rw[lM]at hj;split at hj
       next ej=>
        subst ej;split at hj
        .cases hj
         exact⟨rfl,y,q1,r2⟩
        .cases hj
       .obtain⟨z1,z,z2,z3⟩:=o6 j v hj
        exact⟨z1,z,z2,m5 _ _ ((hl.trans xR).rel z3)⟩
      .exact r1.aY k ei hk
    .cases h
  .cases h;exact⟨g,hR⟩
 .cases h;exact⟨g,hR⟩
def R.dead(hR:R E g S a w)(i:Nat):R E g { S with aC:=S.aC.set i (.cells []) } a w:=by
 have hl:(S.aC.set i (aM.cells [])).length=S.aC.length:=by simp
 have oB:(({ S with aC:=S.aC.set i (.cells []) }:St).cx g w)=S.cx g w:=by simp[St.cx]
 refine⟨by rw[oB];exact hR.env,by rw[oB];exact hR.aY,hR.bo,⟨λk o hk=>?_,λk o hk=>?_,λb k ho=>by rw[hl];exact hR.aC.z b k ho⟩,hR.defers,hR.kr,by rw[hl];exact hR.same⟩
 .rw[hl]
  simp only[lM]at hk;split at hk
  .split at hk
   .cases hk;exact .inl rfl
   .cases hk
  .exact hR.aC.obj k o hk
 .simp only[lM]at hk
  split at hk
  .split at hk
   .cases hk;exact λj n es y hj=>by simp at hj
   .cases hk
  .exact hR.aC.own k o hk
variable{kG:List Sh}
def aa2(hR:R E g S a w){aoj:List Sh}{v u:V}{G:List aM}(hr:bh (S.cx g w) v x)(h:St.GI S.aC kG v=some (u,aoj,G)) :
  ∃g',R E g' { S with aC:=G } a w/\bh (({ S with aC:=G }:St).cx g' w) u x/\∀v x,bh (S.cx g w) v x->bh (({ S with aC:=G }:St).cx g' w) v x:=by
 unfold St.GI at h;split at h
 next i n len=>
  split at h
  next sh aok cs fb=>
   cases hc:(n==sh.length&&Nat.blt 0 n&&Nat.ble (len*n) cs.length) with
   |false=>simp[hc]at h
   |true =>
    simp only[hc,bW]at h;simp only[bZ,ec]at hc;obtain⟨⟨rfl,gR⟩,hle⟩:=hc;have gR:0<sh.length:=by simpa [CN] using gR
    have hle:=js hle;split at h
    next es nY=>
     cases h;have hlen:es.length=len:=by
      obtain⟨h1,_⟩:=Sf nY;rw[Sg]at h1;exact h1
     have oB:(({ S with aC:=S.aC.set i (.cells []) }:St).cx g w)=S.cx g w:=by simp[St.cx]
     have hz:len=0->∃g',R E g' { S with aC:=S.aC.set i (.cells []) } a w/\bh (({ S with aC:=S.aC.set i (.cells []) }:St).cx g' w) (.slice none sh.length es) x/\∀v x,bh (S.cx g w) v x->bh (({ S with aC:=S.aC.set i (.cells []) }:St).cx g' w) v x:=λh0=>by
      subst h0;obtain rfl:=pz.1 hlen;refine⟨g,hR.dead i,.plain ?_ (λ_ _ _ e=>by cases e),λv x hx=>by rw[oB];exact hx⟩
      obtain⟨_,⟨cap,_,e⟩ | ⟨_,e | ⟨q,e⟩⟩⟩:=GM hr
      .rw[e];exact .empty _ _ _ _
      .rw[e];exact .nil _ _
      .rw[e];exact .empty _ _ _ _
     rcases nV len with h0|h0
     .exact hz h0
     obtain⟨hi,hx⟩:=GM hr;obtain⟨cap,eM,e1⟩:=hx.resolve_right (λh=>by have:=h.1;omega)
     have cy:cs≠[]:=λe=>by
      subst e;simp only[tB,Nat.le_zero,Nj]at hle;omega
     obtain⟨cJ,hm,c,e,hh,dS,hj⟩:=(hR.aC.obj i _ fb).resolve_left (λe=>cy (by cases e;rfl))
     have pG:Le ⟨w.heap,g,S.aC.length,[]⟩ (S.cx g w):=⟨b8 _,λ_ _ _ _ h=>h,λ_ _=>b8 _,b8 _,λ_ _=>rfl⟩;obtain⟨h1,h2⟩:=Nz (X:=S.cx g w) (c:=c) (cs:=cs.map V.kq) (off:=0) (λj v hv=>by
      rw[xq]at hv;cases Og:cs[j]? with
      |none=>simp[Og]at hv
      |some v0 =>
       simp[Og]at hv;subst hv;have bJ:j<c.size:=jC (fg Og) dS;obtain⟨_,q2,q3⟩:=hj j v0 c[j] Og (by simp[bJ])
       exact⟨c[j],by simp[bJ],Sd (q3.mono pG (λd=>.inr (q2 d)))⟩) (by simp;exact hle) nY
     simp only[tA]at h2
     let g':Gh:={ g with m:=du g.m (g.γ i) (len*sh.length),ow:=du g.ow (g.γ i) .none }
     have t:Touch E g S w g' S.bo S.aC.length w (g.γ i) none none :=
      {os:=rfl,tape:=rfl,output:=rfl,size:=b8 _,heap:=λ_ _ _=>rfl,m:=λb hb=>g9 _ _ hb,ow:=λb hb=>g9 _ _ hb,κ:=λ_ _=>rfl,cp:=λ_ _=>rfl,
       τ:=λ_ _=>rfl,T:=λ_ _=>rfl,γ:=λ_ _=>rfl,eZ:=b8 _,γnew:=λi a b=>absurd a (by omega)
       fresh:=(hR.JX cJ).imp (λz=>z) .inl,jw:=λp q hb e=>by(have e:du g.ow (g.γ i) .none (g.γ i)=.cell p q:=e);rw[ea]at e;cases e
       lv:=λk e=>by(have e:du g.ow (g.γ i) .none (g.γ i)=.aC k:=e);rw[ea]at e;cases e
       mM:=λ_ _ _ hy=>hy,sO:=λ_=>by rw[hm];exact A6 _ }
     have zb:∀k,ke (S.cx g w) ⟨w.heap,g',S.aC.length,S.bo⟩ k:=λk=>t.keeps hR (λe=>by cases e) (λe=>by cases e) (λ_ e=>by rw[cJ]at e;cases e)
     have aa3:(({ S with aC:=S.aC.set i (.cells []) }:St).cx g' w)=⟨w.heap,g',S.aC.length,S.bo⟩:=by simp[St.cx]
     refine⟨g',R.JB t hR rfl (by simp) (λk=>.inl (zb k)) (λs v hs=>.inl hs) (λk ei ho=>.inl ⟨ho,(λe=>by cases e),λ_ e=>by rw[cJ]at e;cases e⟩)
      (λf k b hf hb=>.inl ⟨(λe=>by cases e),λ_ e=>by rw[cJ]at e;cases e⟩) (λk o hk h0=>?_),?_,λv x hx=>by rw[aa3];exact hx.mono t.le λk=>.inl (zb k)⟩
     .simp only[lM]at hk
      split at hk
      .split at hk
       .cases hk;exact absurd rfl h0
       .cases hk
      next cy=>
       exact .inl ⟨hk,λ_=>⟨λe=>cy (by rw[cJ]at e;cases e;rfl),λ_ e=>by rw[cJ]at e;cases e⟩⟩
     .rw[aa3,e1,<- hlen]
      refine .plain (EE (m:=g'.m) (h2.mono t.le) (jC (GY hR fb (λe=>cy (by cases e;rfl))) (b8 _)) (by omega) (λj y uz=>?_) ?_ _) (λ_ _ _ e=>by cases e)
      .show cellAt w.heap (g.γ i) _=_
       rw[mn hh];rw[jP]at uz;split at uz
       .simpa using uz
       .cases uz
      .show _<=du g.m (g.γ i) (len*sh.length) (g.γ i)
       rw[ea,hlen,kX];exact b8 _
    .cases h
  .cases h
 .cases h;exact⟨g,hR,hr,λv x hx=>hx⟩
def TA:∀{S:St} {g:Gh} (hR:R E g S a w) {kG:List Sh} {vs us:List V} {G:List aM},yM S.aC kG vs=some (us,G)->∀{xs:List Value},PW (S.cx g w) vs xs ->
  ∃g',R E g' { S with aC:=G } a w/\PW (({ S with aC:=G }:St).cx g' w) us xs/\∀v x,bh (S.cx g w) v x->bh (({ S with aC:=G }:St).cx g' w) v x
 |S,g,hR,kG,[],us,G,h,xs,hp=>by
  simp only[yM,Option.some.injEq,Prod.mk.injEq]at h;obtain⟨rfl,rfl⟩:=h;exact⟨g,hR,hp,λv x hx=>hx⟩
 |S,g,hR,kG,v::vs,us,G,h,xs,hp=>by
  simp only[yM]at h;split at h
  next u aa4 G1 h1=>
   split at h
   next us1 G2 h2=>
    cases h
    match xs,hp.len with
    |x::xs,hl =>
     obtain⟨g1,r1,q1,k1⟩:=aa2 hR (hp.at_ 0 v x rfl rfl) h1;obtain⟨g2,r2,q2,k2⟩:=TA (S:={ S with aC:=G1 }) r1 h2 (xs:=xs) ⟨by simpa using hl,λj v y hv hy=>k1 v y (hp.at_ (j+1) v y (by simpa using hv) (by simpa using hy))⟩
     refine⟨g2,r2,⟨by simp[q2.len],λj v y hv hy=>?_⟩,λv x hx=>k2 v x (k1 v x hx)⟩
     cases j with
     |zero=>simp at hv hy;subst hv;subst hy;exact k2 _ _ q1
     |succ j=>exact q2.at_ j v y (by simpa using hv) (by simpa using hy)
   .cases h
  .cases h
def aa5:∀{G G':List aM} {kG:List Sh} {vs us:List V},yM G kG vs=some (us,G')->(∀v∈vs,v.c5=true)->∀u∈us,u.c5=true
 |G,G',kG,[],us,h,_=>by simp only[yM,Option.some.injEq,Prod.mk.injEq]at h;obtain⟨rfl,rfl⟩:=h;simp
 |G,G',kG,v::vs,us,h,hv=>by
  simp only[yM]at h;split at h
  next u aa4 G1 h1=>
   split at h
   next us1 G2 h2=>
    cases h;intro z hz;rcases iA.1 hz with rfl|hz
    .unfold St.GI at h1
     split at h1
     next i n len=>
      split at h1
      next sh aok cs _=>
       cases hc:(n==sh.length&&Nat.blt 0 n&&Nat.ble (len*n) cs.length) with
       |false=>rw[hc]at h1;cases h1
       |true =>
        rw[hc]at h1;simp only[bW]at h1;split at h1
        .cases h1;rfl
        .cases h1
      .cases h1
     .cases h1;exact hv _ z7
    .exact aa5 h2 (λv h=>hv v (Ej _ h)) z hz
   .cases h
  .cases h
def aon(hR:R E g S a w)(h:iP.run S (.GH id kG)=some S'):∃g',R E g' S' a w:=by
 simp only[iP.run]at h;split at h
 next cs eR=>
  split at h
  next us G ht=>
   cases h;rcases hR.aY id cs eR with⟨rfl,yS⟩ | ⟨cJ,hH,hm,c,e,hh,gM,hj⟩
   .simp only[yM,Option.some.injEq,Prod.mk.injEq]at ht
    obtain⟨rfl,rfl⟩:=ht;refine⟨g,⟨hR.env,λi ei hi=>?_,hR.bo,hR.aC,hR.defers,hR.kr,hR.same⟩⟩;replace hi:look i ((id,[])::S.aY.filter λp => !(p.1==id))=some ei:=hi;rw[dO]at hi;by_cases kK:id=i
    .subst kK
     rw[aJ rfl]at hi;cases hi;exact hR.aY id [] eR
    .rw[ax kK,pd]at hi
     split at hi
     .cases hi
     .exact hR.aY i ei hi
   .have hle:=Oh hj
    have tN:(c.toList.take cs.length).length=cs.length:=by simp;omega
    obtain⟨g',r,q,k⟩:=TA hR ht (xs:=c.toList.take cs.length) ⟨tN.symm,λi v y hv hy=>by
     obtain⟨_,y',h1,h2⟩:=hj i v hv;rw[jP]at hy;split at hy
     .have hy:c[i]?=some y:=by simpa using hy
      rw[hy]at h1;cases h1;exact h2
     .cases hy⟩
    have ky:=aa5 ht λv hv=>by
     obtain⟨j,uB⟩:=lN.1 hv;exact(hj j v uB).1
    have sR:g'.κ id=g.κ id:=by
     have:bh (S.cx g w) (.bn id 0) (.pointer (some ⟨g.κ id,0,none⟩)):=.bn id 0;have h6:=CY (k _ _ this);simp only[Value.pointer.injEq,Option.some.injEq,Addr.mk.injEq]at h6;exact h6.1.symm
    refine⟨g',⟨r.env,λi ei hi=>?_,r.bo,r.aC,r.defers,r.kr,r.same⟩⟩;replace hi:look i ((id,us)::S.aY.filter λp => !(p.1==id))=some ei:=hi;rw[dO]at hi;by_cases kK:id=i
    .subst kK
     rw[aJ rfl]at hi;cases hi;rcases r.aY id cs eR with⟨h0,yS⟩ | ⟨h1,h2,h3,c',e',h4,h5,_⟩
     .subst h0
      have:us=[]:=pz.1 (by have:=q.len;simpa using this)
      exact .inl ⟨this,yS⟩
     .rw[sR,hh]at h4
      cases h4;refine .inr ⟨h1,h2,h3,c,e,by rw[sR];exact hh,h5,λj v hv=>?_⟩
      have tL:j<(c.toList.take cs.length).length:=by rw[<-q.len];exact fg hv
      have uz:=eV tL;refine⟨ky v (gw hv),_,?_,q.at_ j v _ hv uz⟩;rw[jP]at uz;split at uz
      .simpa using uz
      .cases uz
    .rw[ax kK,pd]at hi
     split at hi
     .cases hi
     .exact r.aY i ei hi
  .cases h
 .cases h;exact⟨g,hR⟩
end

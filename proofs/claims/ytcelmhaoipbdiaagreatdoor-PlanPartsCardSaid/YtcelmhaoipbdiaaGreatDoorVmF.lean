/- The value machine, 15: what lies between the regions. -/
import Derived.Test.YtcelmhaoipbdiaaGreatDoorVmE
namespace Go.Vm
set_option linter.all false
theorem FZ{α:Type}{s:Nat}{v:α}{env:List (Nat×α)}:∀{l:List Nat},look s (ub env l)=some v→look s env=some v
 |[],h=>by simp[ub,look]at h
 |k::l,h=>by
  simp only[ub]at h;split at h
  ·rename_i u hu
   rw[dj]at h;split at h
   ·rename_i e;subst e;cases h;exact hu
   ·exact FZ h
  ·exact FZ h
section
variable {P:Program} {E:Entry} {g g':Gh} {S S':St} {a:Act} {w w':World} {C:br}
theorem R.keep(hR:R E g S a w)(k:cX):R E g (S.keep k) a w :=
 hR.sub (fun _ _ h=>FZ h) (fun _ _ h=>FZ h) (fun _ _ h=>FZ h) rfl
theorem vH:∀{ds:List Nat} {S S':St},S.clean ds=some S'→nH S' S∧∀d∈ds,S'.eM d
 |[],S,S',h=>by simp only[St.clean,Option.some.injEq]at h;subst h;exact⟨.refl S,by simp⟩
 |d::ds,S,S',h=>by
  simp only[St.clean]at h;cases hc:((S.env.filter fun p => !(p.1==d)).all (fun p => !p.2.ch d)&&(S.aW.filter fun p => !(p.1==d)).all (fun p=>p.2.all fun v => !v.cA d)) with
  |false=>rw[hc]at h;cases h
  |true =>
   rw[hc]at h;simp only[bC]at h;simp only[bQ,g9,tK]at hc;obtain⟨h1,h2⟩:=vH h;have uq:nH ({ env:=S.env.filter fun p => !(p.1==d),aW:=S.aW.filter fun p => !(p.1==d),bf:=S.bf.filter fun p => !(p.1==d),ay:=S.ay }:St) S:=by
    refine⟨fun s v e=>?_,fun s v e=>?_,fun s v e=>?_,rfl⟩
    all_goals
     simp only[mG]at e;split at e
     ·cases e
     ·exact e
   refine⟨h1.trans uq,fun x hx=>?_⟩;rcases ko.1 hx with e|e
   ·subst e
    refine h1.eM ⟨fun s v hs=>?_,fun id cs ho=>?_,?_,?_⟩
    ·exact hc.1 (s,v) (ui hs)
    ·exact fun v hv=>by have:=hc.2 (id,cs) (ui ho);simp only[g9,tK]at this;exact this v hv
    ·show look x (S.aW.filter _)=none;rw[mG,aP rfl]
    ·show look x (S.bf.filter _)=none;rw[mG,aP rfl]
   ·exact h2 x e
theorem afd(hR:R E g S a w){s cb sz:Nat}(h:gI.run S (.norm s cb sz)=some S'):∃g',R E g' S' a w:=by
 simp only[gI.run]at h;split at h
 ·rename_i hs
  split at h
  ·rename_i S1 hc
   cases h;obtain⟨hl,hn⟩:=vH hc;have uq:nH ({ S with env:=S.env.filter fun p => !(p.1==s) }:St) S:=by
    refine⟨fun k v e=>?_,fun _ _ e=>e,fun _ _ e=>e,rfl⟩;simp only[mG]at e;split at e
    ·cases e
    ·exact e
   obtain⟨x,hx,hr⟩:=hR.env s _ hs;have:=nY hr;subst this;obtain⟨g',r1,r2,_⟩:=(hR.less (hl.trans uq)).I1 (hn cb (by simp))
   refine⟨g',⟨fun k v hk=>?_,r1.aW,r1.bf,r1.ay,r1.defers,r1.jg,r1.same⟩⟩;rw[dj]at hk;split at hk
   ·rename_i e
    subst e;cases hk;exact⟨_,hx,r2 sz _ (.inl rfl)⟩
   ·exact r1.env k v hk
  ·cases h
 ·rename_i hs
  split at h
  ·rename_i S1 hc
   cases h;obtain⟨hl,hn⟩:=vH hc;have uq:nH ({ S with env:=S.env.filter fun p => !(p.1==s) }:St) S:=by
    refine⟨fun k v e=>?_,fun _ _ e=>e,fun _ _ e=>e,rfl⟩;simp only[mG]at e;split at e
    ·cases e
    ·exact e
   obtain⟨x,hx,hr⟩:=hR.env s _ hs;have hz:=ta hr;obtain⟨g',r1,r2,_⟩:=(hR.less (hl.trans uq)).I1 (hn cb (by simp))
   refine⟨g',⟨fun k v hk=>?_,r1.aW,r1.bf,r1.ay,r1.defers,r1.jg,r1.same⟩⟩;rw[dj]at hk;split at hk
   ·rename_i e
    subst e;cases hk;exact⟨_,hx,r2 sz _ hz⟩
   ·exact r1.env k v hk
  ·cases h
 ·cases h;exact⟨g,hR⟩
theorem Uq(hR:R E g S a w){id off cb sz:Nat}(h:S.nV id off cb sz=some S'):∃g',R E g' S' a w:=by
 simp only[St.nV]at h;split at h
 ·rename_i cs eB
  split at h
  ·rename_i iW
   split at h
   ·rename_i S1 hc
    split at h
    ·rename_i Af xW
     cases h;obtain⟨hl,hn⟩:=vH hc;have eZ:=hR.less hl;have afe:Af=cs:=by
      have:=hl.aW id Af xW;rw[eB]at this;exact(Option.some.inj this).symm
     subst afe;obtain⟨g',r1,r2,r3⟩:=eZ.I1 (hn cb (by simp))
     refine⟨g',⟨r1.env,fun i dQ hi=>?_,r1.bf,r1.ay,r1.defers,r1.jg,r1.same⟩⟩;rw[dj]at hi;split at hi
     ·rename_i e
      subst e;cases hi;rcases r1.aW id Af xW with h0 | ⟨h1,h2,h3,c,e,h4,fJ,h5⟩
      ·rw[h0.1]at iW;simp at iW
      refine .inr ⟨h1,h2,h3,c,e,h4,fJ,fun j v hj=>?_⟩;rw[km]at hj;split at hj
      ·rename_i ej
       subst ej;split at hj
       ·cases hj
        obtain⟨_,y,h7,h8⟩:=h5 off _ iW;refine⟨rfl,y,h7,?_⟩;exact r2 sz _ (.inl (nY h8))
       ·cases hj
      ·exact h5 j v hj
     ·exact r1.aW i dQ hi
    ·cases h
   ·cases h
  ·cases h;exact⟨g,hR⟩
 ·cases h;exact⟨g,hR⟩
theorem aff(hR:R E g S a w){id off cb sz:Nat}(h:gI.run S (.nV id off cb sz)=some S'):∃g',R E g' S' a w:=Uq hR h
theorem afg{X:Cx}{cb:Nat}{v:V}{x:Value}(h:aZ X v x):aZ X (V.forget cb v) x:=by
 unfold V.forget;split
 ·rename_i f n es
  cases f==cb with
  |false=>exact h
  |true =>
   cases h with
   |plain h _ =>
    refine .plain ?_ (fun _ _ _ e=>by cases e)
    cases h with
    |nil=>exact .nil _ _
    |empty _ _ a cap=>exact .empty _ _ a cap
    |slice _ _ _ b off cap zs hb en iw hc hv hp hm=>exact .slice _ _ _ b off cap zs hb en iw hc hv hp hm
 ·exact h
theorem afh{cb:Nat}{v:V}(h:v.cI=true):(V.forget cb v).cI=true:=by
 unfold V.forget;split
 ·rename_i f n es;cases f==cb<;>rfl
 ·exact h
theorem afi(hR:R E g S a w){id back cb sz:Nat}(h:gI.run S (.IN id back cb sz)=some S'):∃g',R E g' S' a w:=by
 simp only[gI.run]at h;split at h
 ·rename_i cs eB
  split at h
  ·refine Uq (g:=g) (S:={ S with aW:=(id,cs.map (V.forget cb))::S.aW.filter fun p => !(p.1==id) }) ⟨hR.env,fun i dQ hi=>?_,hR.bf,hR.ay,hR.defers,hR.jg,hR.same⟩ h
   have hi:look i ((id,cs.map (V.forget cb))::S.aW.filter fun p => !(p.1==id))=some dQ:=hi;rw[dj]at hi;by_cases m7:id=i
   ·subst m7
    rw[aP rfl]at hi;cases hi;rcases hR.aW id cs eB with h0 | ⟨h1,h2,h3,c,e,h4,fJ,h5⟩
    ·exact .inl ⟨by rw[h0.1];rfl,h0.2⟩
    refine .inr ⟨h1,h2,h3,c,e,h4,fJ,fun j v hj=>?_⟩;rw[tN]at hj;cases hu:cs[j]? with
    |none=>simp[hu]at hj
    |some u =>
     simp only[hu,mT,Option.some.injEq]at hj;subst hj;obtain⟨q1,y,q2,q3⟩:=h5 j u hu;exact⟨afh q1,y,q2,afg q3⟩
   ·rw[aA m7,mG]at hi
    split at hi
    ·cases hi
    ·exact hR.aW i dQ hi
  ·cases h;exact⟨g,hR⟩
 ·cases h;exact⟨g,hR⟩
theorem Ur{α β:Type}{s:Nat}{f:α→β}:∀{l:List (Nat×α)},look s (l.map fun p=>(p.1,f p.2))=(look s l).map f
 |[]=>rfl
 |(k,v)::l=>by
  simp only[nq,dj];split
  ·rfl
  ·exact Ur
theorem afj(hR:R E g S a w){i b:Nat}(h:gI.run S (.jd i b)=some S'):∃g',R E g' S' a w:=by
 simp only[gI.run]at h;split at h
 ·rename_i S1 hc
  obtain⟨hl,hn⟩:=vH hc;have eZ:=hR.less hl;have hn:=hn b (by simp)
  split at h
  ·rename_i cs eB
   cases h;obtain⟨g',r1,r2,r3,_⟩:=eZ.F2 hn eB;refine⟨g',⟨fun s v hs=>?_,r1.aW,r1.bf,r1.ay,r1.defers,r1.jg,r1.same⟩⟩;have hs:look s (S1.env.map fun p=>(p.1,V.jd i b p.2))=some v:=hs;rw[Ur]at hs;cases hu:look s S1.env with
   |none=>simp[hu]at hs
   |some u =>
    simp only[hu,mT,Option.some.injEq]at hs;subst hs;obtain⟨x,hx,hr⟩:=eZ.env s u hu;refine⟨x,hx,?_⟩;unfold V.jd;split
    ·rename_i k sz n
     cases hk:k==i with
     |true =>
      have:=eq_of_beq hk;subst this;exact r2 _ _ _ hr
     |false=>exact r3 _ _ hr (hn.env s _ hu)
    ·exact r3 _ _ hr (hn.env s _ hu)
  ·cases h;exact⟨g,eZ⟩
 ·cases h
theorem R.frozen(hR:R E g S a w){id off n:Nat}{sh:Sh}{es:List (List V)}{x:Value}(hr:aZ (S.cx g w) (.bP id off n) x)(jK:S.qH sh (.bP id off n)=some es) :
  ∃g',R E g' { S with aW:=S.aW.filter fun p => !(p.1==id) } a w∧aZ (S.cx g' w) (.slice none sh.length es) x∧∀v x,aZ (S.cx g w) v x→aZ (S.cx g' w) v x:=by
 obtain⟨l7,n',he,hlen,tl⟩:=Fq hR hr jK;cases he;rcases tl with⟨h0,hz⟩ | ⟨cap,en,hx,c,e,hh,fu,xD,cj,fU,hm⟩
 ·subst h0
  obtain rfl:=bW.1 hlen;have uq:nH ({ S with aW:=S.aW.filter fun p => !(p.1==id) }:St) S:=by
   refine⟨fun _ _ e=>e,fun k v e=>?_,fun _ _ e=>e,rfl⟩;simp only[mG]at e;split at e
   ·cases e
   ·exact e
  refine⟨g,hR.less uq,.plain (by rcases hz with rfl | ⟨q,rfl⟩<;>first|exact .nil _ _|exact .empty _ _ q 0) (fun _ _ _ e=>by cases e),fun v x hx=>hx.mono ⟨bR _,fun _ _ _ _ h=>h,fun _ _=>bR _,bR _,fun _ _=>rfl⟩ fun i=>.inl (iM.refl _ i)⟩
 let g':Gh:={ g with m:=cU g.m (g.κ id) c.size,ow:=cU g.ow (g.κ id) .none }
 have t:Touch E g S w g' S.bf S.ay.length w (g.κ id) none none :=
  {os:=rfl,tape:=rfl,output:=rfl,size:=bR _,heap:=fun _ _ _=>rfl,m:=fun b hb=>fN _ _ hb,ow:=fun b hb=>fN _ _ hb,κ:=fun _ _=>rfl,cp:=fun _ _=>rfl,τ:=fun _ _=>rfl,T:=fun _ _=>rfl,
   γ:=fun _ _=>rfl,eD:=bR _,γnew:=fun i a b=>absurd a (by omega),fresh:=.inl fU,hY:=fun p q _ e=>by(have e:cU g.ow (g.κ id) .none (g.κ id)=.cell p q:=e);rw[dF]at e;exact nomatch e
   lv:=fun i e=>by(have e:cU g.ow (g.κ id) .none (g.κ id)=.ay i:=e);rw[dF]at e;exact nomatch e
   jJ:=fun _ _ _ h=>h,pC:=fun _=>by rw[hm];exact xu _ }
 have hk:∀i,iM (S.cx g w) ⟨w.heap,g',S.ay.length,S.bf⟩ i:=fun i=>t.keeps hR (fun e=>by cases e) (fun e=>by cases e) (fun _ e=>by rw[cj]at e;cases e)
 have bB:g.κ id<w.heap.size:=by
  rcases cF (g.κ id) w.heap.size with h|h
  ·exact h
  ·simp[lU h]at hh
 refine⟨g',R.nB t hR rfl rfl (fun i=>.inl (hk i)) (fun k v qO=>.inl qO) (fun i dQ hi=>?_) (fun f k b hf hb=>.inl ⟨(fun e=>by cases e),fun _ e=>by rw[cj]at e;cases e⟩)
  (fun i o hi=>.inl ⟨hi,fun _=>⟨fun e=>(by rw[cj]at e;cases e),fun _ e=>(by rw[cj]at e;cases e)⟩⟩),?_,fun v x hx=>hx.mono t.le fun i=>.inl (hk i)⟩
 ·have hi:look i (S.aW.filter fun p => !(p.1==id))=some dQ:=hi
  rw[mG]at hi;split at hi
  ·cases hi
  ·rename_i cf
   exact .inl ⟨hi,(fun e=>by cases e),fun _ e=>cf (by rw[cj]at e;cases e;rfl)⟩
 ·subst hx
  rw[←hlen];refine .plain (Bf (m:=g'.m) (xD.mono t.le) bB (by omega) (fun j y hj=>?_) ?_ _) (fun _ _ _ e=>by cases e)
  ·show cellAt w.heap (g.κ id) _=_
   rw[kr hh];rw[kn]at hj;split at hj
   ·simpa using hj
   ·cases hj
  ·show _≤cU g.m (g.κ id) c.size (g.κ id)
   rw[dF,hlen,jz];exact fu
theorem afk(hR:R E g S a w){s:Nat}{sh:Sh}(h:gI.run S (.freeze s sh)=some S'):∃g',R E g' S' a w:=by
 simp only[gI.run]at h;split at h
 ·rename_i id off n hs
  split at h
  ·rename_i es jK
   cases h;obtain⟨x,hx,hr⟩:=hR.env s _ hs;obtain⟨g',r1,r2,_⟩:=hR.frozen hr jK;refine⟨g',⟨fun k v hk=>?_,r1.aW,r1.bf,r1.ay,r1.defers,r1.jg,r1.same⟩⟩;rw[dj]at hk;split at hk
   ·rename_i e
    subst e;cases hk;exact⟨x,hx,r2⟩
   ·exact r1.env k v hk
  ·cases h
 ·cases h;exact⟨g,hR⟩
theorem afl(hR:R E g S a w){id off:Nat}{sh:Sh}(h:gI.run S (.IP id off sh)=some S'):∃g',R E g' S' a w:=by
 simp only[gI.run]at h;split at h
 ·rename_i cs eB
  split at h
  ·rename_i i s n iW
   split at h
   ·rename_i es jK
    cases jk:i==id with
    |true=>simp[jk]at h
    |false =>
     simp only[jk,eV]at h;cases h;have cf:id≠i:=fun e=>by subst e;simp at jk
     obtain⟨_,_,_,c,e,hh,_,hj⟩:=(hR.aW id cs eB).resolve_left (fun h0=>by rw[h0.1]at iW;simp at iW)
     obtain⟨_,y,hy,hr⟩:=hj off _ iW;obtain⟨g',r1,r2,r3⟩:=hR.frozen hr jK;have xW:look id (S.aW.filter fun p => !(p.1==i))=some cs:=by rw[mG,aA cf];exact eB
     refine⟨g',⟨r1.env,fun k dQ hk=>?_,r1.bf,r1.ay,r1.defers,r1.jg,r1.same⟩⟩;have hk:look k ((id,cs.set off (.slice none sh.length es))::(S.aW.filter fun p => !(p.1==i)).filter fun p => !(p.1==id))=some dQ:=hk;rw[dj]at hk;by_cases jL:id=k
     ·subst jL
      rw[aP rfl]at hk;cases hk;obtain⟨h1,h2,h3,c',e',h4,fJ,h5⟩:=(r1.aW id cs xW).resolve_left (fun h0=>by rw[h0.1]at iW;simp at iW)
      refine .inr ?_;have pE:g'.κ id=g.κ id:=by
       have:aZ (S.cx g w) (.bG id 0) (.pointer (some ⟨g.κ id,0,none⟩)):=.bG id 0;have h6:=zM (r3 _ _ this);simp only[Value.pointer.injEq,Option.some.injEq,Addr.mk.injEq]at h6;exact h6.1.symm
      have vI:c'=c:=by
       rw[pE,hh]at h4;cases h4;rfl
      subst vI;refine⟨h1,h2,h3,c',e',h4,fJ,fun j v qP=>?_⟩;rw[km]at qP;split at qP
      ·rename_i ej
       subst ej;split at qP
       ·cases qP
        exact⟨rfl,y,hy,r2⟩
       ·cases qP
      ·exact h5 j v qP
     ·rw[aA jL,mG]at hk
      split at hk
      ·cases hk
      ·exact r1.aW k dQ hk
   ·cases h
  ·cases h;exact⟨g,hR⟩
 ·cases h;exact⟨g,hR⟩
theorem Ut(hR:R E g S a w){s id sz:Nat}{v:V}(hs:look s S.env=some v)(hz:∀x,aZ (S.cx g w) v x→kX x)(h:S.rP s id sz=some S'):∃g',R E g' S' a w:=by
 unfold St.rP at h;split at h
 ·rename_i S1 hc
  cases h;obtain⟨hl,hn⟩:=vH hc;obtain⟨x,hx,hr⟩:=hR.env s _ hs;obtain⟨g',r1,_,r2,_⟩:=(hR.less (hl.trans NN)).Jw (hn id (by simp)) 0
  refine⟨g',⟨fun k v hk=>?_,r1.aW,r1.bf,r1.ay,r1.defers,r1.jg,r1.same⟩⟩;replace hk:look k ((s,.bP id sz 0)::S1.env)=some v:=hk;rw[dj]at hk;split at hk
  ·rename_i e;subst e;cases hk;exact⟨x,hx,.p8 _ _ (hz x hr) r2⟩
  ·exact r1.env k v hk
 ·cases h
theorem afm(hR:R E g S a w){s id sz:Nat}(h:gI.run S (.rP s id sz)=some S'):∃g',R E g' S' a w:=by
 simp only[gI.run]at h;split at h
 ·rename_i hs;exact Ut hR hs (fun x hx=>.inl (nY hx)) h
 ·rename_i hs;exact Ut hR hs (fun x hx=>ta hx) h
 ·cases h;exact⟨g,hR⟩
theorem afn(hR:R E g S a w){s:Nat}{sh:Sh}(h:gI.run S (.share s sh)=some S'):∃g',R E g' S' a w:=by
 simp only[gI.run]at h;split at h
 ·rename_i id n len hs
  split at h
  ·rename_i es S1 jK hc
   cases h;obtain⟨hl,hn⟩:=vH hc;have hn:=hn id (by simp)
   have hl:=hl.trans NN;obtain⟨x,hx,hr⟩:=hR.env s _ hs;obtain⟨l7,n',he,hlen,tl⟩:=Fq hR hr jK;cases he;have eZ:=hR.less hl;rcases tl with⟨h0,hz⟩ | ⟨cap,en,Jx,c,e,hh,fu,xD,cj,fU,hm⟩
   ·subst h0
    obtain rfl:=bW.1 hlen;have wX:R E g { S1 with env:=(s,.dX 0)::S1.env } a w:=⟨fun k v hk=>by
     replace hk:look k ((s,.dX 0)::S1.env)=some v:=hk;rw[dj]at hk;split at hk
     ·rename_i e;subst e;cases hk;exact⟨x,hx,.dX hz⟩
     ·exact eZ.env k v hk,eZ.aW,eZ.bf,eZ.ay,eZ.defers,eZ.jg,eZ.same⟩
    obtain⟨g',r⟩:=Jy (n:=sh.length) wX (s:=s) (v:=.dX 0) (by show look s ((s,.dX 0)::S1.env)=_;rw[dj,aP rfl]) (fun x hx=>ta hx)
    refine⟨g',⟨fun k v hk=>?_,r.aW,r.bf,r.ay,r.defers,r.jg,r.same⟩⟩;refine r.env k v ?_;replace hk:look k ((s,.da S1.ay.length sh.length 0)::S1.env)=some v:=hk;show look k ((s,.da S1.ay.length sh.length 0)::(s,.dX 0)::S1.env)=some v;rw[dj]at hk ⊢;split at hk
    ·rename_i e;rw[aP e];exact hk
    ·rename_i e;rw[aA e,dj,aA e];exact hk
   ·obtain⟨f1,f2⟩:=xR xD
    obtain⟨g',r1,r2,_⟩:=eZ.NO (id:=id) (n:=sh.length) hn cj fU hm hh Jx en (us:=es.flatten) (fun j v hv=>by
     obtain⟨q1,y,q2,q3⟩:=f2 j v hv;rw[kn]at q2;split at q2
     ·exact⟨q1,y,by simpa using q2,q3⟩
     ·cases q2)
    refine⟨g',⟨fun k u hk=>?_,r1.aW,r1.bf,r1.ay,r1.defers,r1.jg,r1.same⟩⟩;replace hk:look k ((s,.da S1.ay.length sh.length es.length)::S1.env)=some u:=hk;rw[dj]at hk;split at hk
    ·rename_i e;subst e;cases hk;rw[hlen];exact⟨x,hx,r2⟩
    ·exact r1.env k u hk
  ·cases h
 ·rename_i hs;cases h;exact Jy hR hs (fun x hx=>.inl (nY hx))
 ·rename_i hs;cases h;exact Jy hR hs (fun x hx=>ta hx)
 ·cases h
theorem R.NP(hR:R E g S a w){id off:Nat}{cs:List V}{v0 v1:V}(eB:look id S.aW=some cs)(iW:cs[off]?=some v0)(hc:v1.cI=true)(hx:∀y,aZ (S.cx g w) v0 y→aZ (S.cx g w) v1 y) :
  R E g { S with aW:=(id,cs.set off v1)::S.aW } a w :=
 ⟨hR.env,fun k dQ hk=>by
  replace hk:look k ((id,cs.set off v1)::S.aW)=some dQ:=hk;rw[dj]at hk;split at hk
  ·rename_i e
   subst e;cases hk;obtain⟨h1,h2,h3,c,e,h4,h5,h6⟩:=(hR.aW id cs eB).resolve_left (fun h=>by rw[h.1]at iW;simp at iW)
   refine .inr ⟨h1,h2,h3,c,e,h4,h5,fun j v hj=>?_⟩;rw[km]at hj;split at hj
   ·rename_i ej
    subst ej;split at hj
    ·cases hj
     obtain⟨_,y,h7,h8⟩:=h6 off _ iW;exact⟨hc,y,h7,hx y h8⟩
    ·cases hj
   ·exact h6 j v hj
  ·exact hR.aW k dQ hk,hR.bf,hR.ay,hR.defers,hR.jg,hR.same⟩
theorem Uu{S S1:St}(hl:nH S1 S){id:Nat}{cs Af:List V}(h:look id S.aW=some cs)(h1:look id S1.aW=some Af):Af=cs:=by
 have:=hl.aW id Af h1;rw[h]at this;exact(Option.some.inj this).symm
theorem afo(hR:R E g S a w){id off i sz:Nat}(h:gI.run S (.vh id off i sz)=some S'):∃g',R E g' S' a w:=by
 simp only[gI.run,St.vh]at h;split at h
 ·rename_i cs eB
  split at h
  ·rename_i iW
   split at h
   ·rename_i S1 hc
    split at h
    ·rename_i Af xW
     cases h;obtain⟨hl,hn⟩:=vH hc;obtain rfl:=Uu hl eB xW;have hn:=hn i (by simp)
     obtain⟨g',r1,_,r2,_⟩:=(hR.less hl).Jw hn 0;have cf:i≠id:=fun e=>by subst e;rw[hn.obj]at xW;cases xW
     exact⟨g',r1.NP (v0:=.b9) (by show look id ((i,[])::S1.aW)=_;rw[dj,aA cf];exact xW) iW rfl fun y hy=>.p8 _ _ (.inl (nY hy)) r2⟩
    ·cases h
   ·cases h
  ·cases h;exact⟨g,hR⟩
 ·cases h;exact⟨g,hR⟩
theorem afp(hR:R E g S a w){i b id off:Nat}(h:gI.run S (.zD i b id off)=some S'):∃g',R E g' S' a w:=by
 simp only[gI.run,St.zD]at h;split at h
 ·rename_i ds oU
  split at h
  ·rename_i k s n iW
   cases Dn:(k==i && !(id==i)) with
   |false=>simp only[Dn,eV]at h;cases h;exact⟨g,hR⟩
   |true =>
    simp only[Dn,bC]at h;simp only[bQ,dO,tK,E6]at Dn;obtain⟨rfl,cf⟩:=Dn;split at h
    ·rename_i S1 hc
     split at h
     ·rename_i cs NQ eB Jz
      cases h;obtain⟨hl,hn⟩:=vH hc;obtain rfl:=Uu hl oU Jz;have hn:=hn b (by simp)
      obtain⟨g',r1,_,_,r4⟩:=(hR.less hl).F2 hn eB;have Ux:b≠id:=fun e=>by subst e;rw[hn.obj]at Jz;cases Jz
      refine⟨g',(r1.NP (v0:=.bP k s n) (by show look id ((b,cs)::S1.aW.filter fun p => !(p.1==k))=_;rw[dj,aA Ux,mG,aA cf];exact Jz) iW rfl fun y hy=>r4 _ _ _ hy).less ⟨fun _ _ e=>e,fun m v e=>?_,fun _ _ e=>e,rfl⟩⟩
      simp only at e ⊢;rw[dj]at e ⊢;split
      ·rename_i e1;rw[aP e1]at e;exact e
      ·rename_i e1
       rw[aA e1,dj]at e;rw[dj];split
       ·rename_i e2;rw[aP e2]at e;exact e
       ·rename_i e2
        rw[aA e2,mG,mG]at e;rw[mG];split at e
        ·cases e
        ·rename_i e3
         rw[aA e3];split at e
         ·cases e
         ·exact e
     ·cases h
    ·cases h
  ·cases h;exact⟨g,hR⟩
 ·cases h;exact⟨g,hR⟩
theorem afq(hR:R E g S a w){id off:Nat}{sh:Sh}(h:gI.run S (.zE id off sh)=some S'):∃g',R E g' S' a w:=by
 simp only[gI.run,St.zE]at h;split at h
 ·rename_i ds oU
  split at h
  ·rename_i i s n iW
   cases wM:(n==0) with
   |true =>
    simp only[wM,bC]at h;cases h;have:=eq_of_beq wM;subst this;refine⟨g,hR.NP oU iW rfl fun y hy=>.plain ?_ (fun _ _ _ e=>by cases e)⟩
    rcases qa hy with⟨cap,_,_,rfl⟩ | ⟨_,rfl | ⟨q,rfl⟩,_⟩
    ·exact .empty _ _ _ _
    ·exact .nil _ _
    ·exact .empty _ _ _ _
   |false =>
    simp only[wM,eV]at h;split at h
    ·rename_i es S1 jK hc
     cases jk:i==id with
     |true=>simp only[jk,bC]at h;cases h
     |false =>
      simp only[jk,eV]at h;cases h;have cf:i≠id:=fun e=>by subst e;simp at jk
      obtain⟨hl,hn⟩:=vH hc;have hn:=hn i (by simp)
      have uq:nH ({ S with aW:=S.aW.filter fun p => !(p.1==id) }:St) S:=by
       refine⟨fun _ _ e=>e,fun k v e=>?_,fun _ _ e=>e,rfl⟩;simp only[mG]at e;split at e
       ·cases e
       ·exact e
      have eZ:=hR.less (hl.trans uq);obtain⟨o1,o2,o3,c,e,o4,o5,o6⟩:=(hR.aW id ds oU).resolve_left (fun h=>by rw[h.1]at iW;simp at iW)
      obtain⟨_,y,q1,q2⟩:=o6 off _ iW;obtain⟨l7,n',he,hlen,tl⟩:=Fq hR q2 jK;cases he;obtain⟨cap,en,Jx,c',e',hh,fu,xD,cj,fU,hm⟩:=tl.resolve_left (fun h=>by rw[h.1]at wM;simp at wM)
      obtain⟨f1,f2⟩:=xR xD;obtain⟨g',r1,r2,m1,m2,m3,m4,m5⟩:=eZ.NO (id:=i) (n:=sh.length) hn cj fU hm hh Jx en (us:=es.flatten) (fun j v hv=>by
       obtain⟨q1,y,q2,q3⟩:=f2 j v hv;rw[kn]at q2;split at q2
       ·exact⟨q1,y,by simpa using q2,q3⟩
       ·cases q2)
      refine⟨g',⟨r1.env,fun k dQ hk=>?_,r1.bf,r1.ay,r1.defers,r1.jg,r1.same⟩⟩;replace hk:look k ((id,ds.set off (.da S1.ay.length sh.length n))::S1.aW)=some dQ:=hk;rw[dj]at hk;split at hk
      ·rename_i ee
       subst ee;cases hk;have pE:g.κ id≠g.κ i:=fun h=>by
        rw[h,cj]at o1;injection o1 with o1;exact cf o1
       refine .inr ⟨by rw[m2,m4 _ pE];exact o1,by rw[m2];exact o2,by rw[m1,m2];exact o3,c,e,by rw[m2];exact o4,by rw[m3];exact o5,fun j v hj=>?_⟩
       rw[km]at hj;split at hj
       ·rename_i ej
        subst ej;split at hj
        ·cases hj
         exact⟨rfl,y,q1,r2⟩
        ·cases hj
       ·obtain⟨z1,z,z2,z3⟩:=o6 j v hj
        exact⟨z1,z,z2,m5 _ _ ((hl.trans uq).rel z3)⟩
      ·exact r1.aW k dQ hk
    ·cases h
  ·cases h;exact⟨g,hR⟩
 ·cases h;exact⟨g,hR⟩
theorem R.dead(hR:R E g S a w)(i:Nat):R E g { S with ay:=S.ay.set i (.cells []) } a w:=by
 have hl:(S.ay.set i (aT.cells [])).length=S.ay.length:=by simp
 have lY:(({ S with ay:=S.ay.set i (.cells []) }:St).cx g w)=S.cx g w:=by simp[St.cx]
 refine⟨by rw[lY];exact hR.env,by rw[lY];exact hR.aW,hR.bf,⟨fun k o hk=>?_,fun k o hk=>?_,fun b k ho=>by rw[hl];exact hR.ay.z b k ho⟩,hR.defers,hR.jg,by rw[hl];exact hR.same⟩
 ·rw[hl]
  simp only[km]at hk;split at hk
  ·split at hk
   ·cases hk;exact .inl rfl
   ·cases hk
  ·exact hR.ay.obj k o hk
 ·simp only[km]at hk
  split at hk
  ·split at hk
   ·cases hk;exact fun j n es y hj=>by simp at hj
   ·cases hk
  ·exact hR.ay.own k o hk
theorem Uy(hR:R E g S a w){je afs:List Sh}{v u:V}{G:List aT}{x:Value}(hr:aZ (S.cx g w) v x)(h:St.CM S.ay je v=some (u,afs,G)) :
  ∃g',R E g' { S with ay:=G } a w∧aZ (({ S with ay:=G }:St).cx g' w) u x∧∀v x,aZ (S.cx g w) v x→aZ (({ S with ay:=G }:St).cx g' w) v x:=by
 unfold St.CM at h;split at h
 ·rename_i i n len
  split at h
  ·rename_i sh aft cs ff
   cases hc:(n==sh.length&&Nat.blt 0 n&&Nat.ble (len*n) cs.length) with
   |false=>simp[hc]at h
   |true =>
    simp only[hc,bC]at h;simp only[bQ,dO]at hc;obtain⟨⟨rfl,gR⟩,hle⟩:=hc;have gR:0<sh.length:=by simpa [A0] using gR
    have hle:=iD hle;split at h
    ·rename_i es lK
     cases h;have hlen:es.length=len:=by
      obtain⟨h1,_⟩:=MF lK;rw[MG]at h1;exact h1
     have lY:(({ S with ay:=S.ay.set i (.cells []) }:St).cx g w)=S.cx g w:=by simp[St.cx]
     have hz:len=0→∃g',R E g' { S with ay:=S.ay.set i (.cells []) } a w∧aZ (({ S with ay:=S.ay.set i (.cells []) }:St).cx g' w) (.slice none sh.length es) x∧∀v x,aZ (S.cx g w) v x→aZ (({ S with ay:=S.ay.set i (.cells []) }:St).cx g' w) v x:=fun h0=>by
      subst h0;obtain rfl:=bW.1 hlen;refine⟨g,hR.dead i,.plain ?_ (fun _ _ _ e=>by cases e),fun v x hx=>by rw[lY];exact hx⟩
      obtain⟨_,⟨cap,_,e⟩ | ⟨_,e | ⟨q,e⟩⟩⟩:=CQ hr
      ·rw[e];exact .empty _ _ _ _
      ·rw[e];exact .nil _ _
      ·rw[e];exact .empty _ _ _ _
     rcases mw len with h0|h0
     ·exact hz h0
     obtain⟨hi,hx⟩:=CQ hr;obtain⟨cap,en,e1⟩:=hx.resolve_right (fun h=>by have:=h.1;omega)
     have cf:cs≠[]:=fun e=>by
      subst e;simp only[sX,Nat.le_zero,II]at hle;omega
     obtain⟨cj,hm,c,e,hh,dg,hj⟩:=(hR.ay.obj i _ ff).resolve_left (fun e=>cf (by cases e;rfl))
     have mX:Le ⟨w.heap,g,S.ay.length,[]⟩ (S.cx g w):=⟨bR _,fun _ _ _ _ h=>h,fun _ _=>bR _,bR _,fun _ _=>rfl⟩;obtain⟨h1,h2⟩:=MH (X:=S.cx g w) (c:=c) (cs:=cs.map V.iV) (off:=0) (fun j v hv=>by
      rw[tN]at hv;cases JA:cs[j]? with
      |none=>simp[JA]at hv
      |some v0 =>
       simp[JA]at hv;subst hv;have bB:j<c.size:=iq (eJ JA) dg;obtain⟨_,q2,q3⟩:=hj j v0 c[j] JA (by simp[bB])
       exact⟨c[j],by simp[bB],MD (q3.mono mX (fun d=>.inr (q2 d)))⟩) (by simp;exact hle) lK
     simp only[tM]at h2
     let g':Gh:={ g with m:=cU g.m (g.γ i) (len*sh.length),ow:=cU g.ow (g.γ i) .none }
     have t:Touch E g S w g' S.bf S.ay.length w (g.γ i) none none :=
      {os:=rfl,tape:=rfl,output:=rfl,size:=bR _,heap:=fun _ _ _=>rfl,m:=fun b hb=>fN _ _ hb,ow:=fun b hb=>fN _ _ hb,κ:=fun _ _=>rfl,cp:=fun _ _=>rfl,
       τ:=fun _ _=>rfl,T:=fun _ _=>rfl,γ:=fun _ _=>rfl,eD:=bR _,γnew:=fun i a b=>absurd a (by omega)
       fresh:=(hR.FD cj).imp (fun z=>z) .inl,hY:=fun p q hb e=>by(have e:cU g.ow (g.γ i) .none (g.γ i)=.cell p q:=e);rw[dF]at e;cases e
       lv:=fun k e=>by(have e:cU g.ow (g.γ i) .none (g.γ i)=.ay k:=e);rw[dF]at e;cases e
       jJ:=fun _ _ _ hy=>hy,pC:=fun _=>by rw[hm];exact xu _ }
     have xZ:∀k,iM (S.cx g w) ⟨w.heap,g',S.ay.length,S.bf⟩ k:=fun k=>t.keeps hR (fun e=>by cases e) (fun e=>by cases e) (fun _ e=>by rw[cj]at e;cases e)
     have Uz:(({ S with ay:=S.ay.set i (.cells []) }:St).cx g' w)=⟨w.heap,g',S.ay.length,S.bf⟩:=by simp[St.cx]
     refine⟨g',R.Ff t hR rfl (by simp) (fun k=>.inl (xZ k)) (fun s v hs=>.inl hs) (fun k dQ ho=>.inl ⟨ho,(fun e=>by cases e),fun _ e=>by rw[cj]at e;cases e⟩)
      (fun f k b hf hb=>.inl ⟨(fun e=>by cases e),fun _ e=>by rw[cj]at e;cases e⟩) (fun k o hk h0=>?_),?_,fun v x hx=>by rw[Uz];exact hx.mono t.le fun k=>.inl (xZ k)⟩
     ·simp only[km]at hk
      split at hk
      ·split at hk
       ·cases hk;exact absurd rfl h0
       ·cases hk
      ·rename_i cf
       exact .inl ⟨hk,fun _=>⟨fun e=>cf (by rw[cj]at e;cases e;rfl),fun _ e=>by rw[cj]at e;cases e⟩⟩
     ·rw[Uz,e1,← hlen]
      refine .plain (Bf (m:=g'.m) (h2.mono t.le) (iq (CZ hR ff (fun e=>cf (by cases e;rfl))) (bR _)) (by omega) (fun j y qN=>?_) ?_ _) (fun _ _ _ e=>by cases e)
      ·show cellAt w.heap (g.γ i) _=_
       rw[kr hh];rw[kn]at qN;split at qN
       ·simpa using qN
       ·cases qN
      ·show _≤cU g.m (g.γ i) (len*sh.length) (g.γ i)
       rw[dF,hlen,jz];exact bR _
    ·cases h
  ·cases h
 ·cases h;exact⟨g,hR,hr,fun v x hx=>hx⟩
theorem NR:∀{S:St} {g:Gh} (hR:R E g S a w) {je:List Sh} {vs us:List V} {G:List aT},vi S.ay je vs=some (us,G)→∀{xs:List Value},PW (S.cx g w) vs xs →
  ∃g',R E g' { S with ay:=G } a w∧PW (({ S with ay:=G }:St).cx g' w) us xs∧∀v x,aZ (S.cx g w) v x→aZ (({ S with ay:=G }:St).cx g' w) v x
 |S,g,hR,je,[],us,G,h,xs,hp=>by
  simp only[vi,Option.some.injEq,Prod.mk.injEq]at h;obtain⟨rfl,rfl⟩:=h;exact⟨g,hR,hp,fun v x hx=>hx⟩
 |S,g,hR,je,v::vs,us,G,h,xs,hp=>by
  simp only[vi]at h;split at h
  ·rename_i u UA G1 h1
   split at h
   ·rename_i us1 G2 h2
    cases h
    match xs,hp.len with
    |x::xs,hl =>
     obtain⟨g1,r1,q1,k1⟩:=Uy hR (hp.at_ 0 v x rfl rfl) h1;obtain⟨g2,r2,q2,k2⟩:=NR (S:={ S with ay:=G1 }) r1 h2 (xs:=xs) ⟨by simpa using hl,fun j v y hv hy=>k1 v y (hp.at_ (j+1) v y (by simpa using hv) (by simpa using hy))⟩
     refine⟨g2,r2,⟨by simp[q2.len],fun j v y hv hy=>?_⟩,fun v x hx=>k2 v x (k1 v x hx)⟩
     cases j with
     |zero=>simp at hv hy;subst hv;subst hy;exact k2 _ _ q1
     |succ j=>exact q2.at_ j v y (by simpa using hv) (by simpa using hy)
   ·cases h
  ·cases h
theorem afv(hR:R E g S a w){s:Nat}{je:List Sh}(h:gI.run S (.IQ s je)=some S'):∃g',R E g' S' a w:=by
 simp only[gI.run]at h;split at h
 ·rename_i cs hs
  split at h
  ·rename_i us G ht
   cases h;obtain⟨x,hx,hr⟩:=hR.env s _ hs;obtain⟨xs,rfl,hl,F3⟩:=qb hr;obtain⟨g',r,q,_⟩:=NR hR ht (xs:=xs.toList) ⟨by simpa using hl,fun i v y hv hy=>F3 i v y hv (by simpa using hy)⟩
   refine⟨g',⟨fun k v hk=>?_,r.aW,r.bf,r.ay,r.defers,r.jg,r.same⟩⟩;replace hk:look k ((s,.agg us)::S.env)=some v:=hk;rw[dj]at hk;split at hk
   ·rename_i e;subst e;cases hk
    exact⟨_,hx,.agg _ _ (by simpa using q.len) (fun i v y hv hy=>q.at_ i v y hv (by simpa using hy))⟩
   ·exact r.env k v hk
  ·cases h
 ·rename_i v _ hs
  split at h
  ·rename_i u UA G ht
   cases h;obtain⟨x,hx,hr⟩:=hR.env s _ hs;obtain⟨g',r,q,_⟩:=Uy hR hr ht;refine⟨g',⟨fun k v hk=>?_,r.aW,r.bf,r.ay,r.defers,r.jg,r.same⟩⟩;replace hk:look k ((s,u)::S.env)=some v:=hk;rw[dj]at hk;split at hk
   ·rename_i e;subst e;cases hk;exact⟨x,hx,q⟩
   ·exact r.env k v hk
  ·cases h
 ·cases h
theorem UB:∀{G G':List aT} {je:List Sh} {vs us:List V},vi G je vs=some (us,G')→(∀v∈vs,v.cI=true)→∀u∈us,u.cI=true
 |G,G',je,[],us,h,_=>by simp only[vi,Option.some.injEq,Prod.mk.injEq]at h;obtain⟨rfl,rfl⟩:=h;simp
 |G,G',je,v::vs,us,h,hv=>by
  simp only[vi]at h;split at h
  ·rename_i u UA G1 h1
   split at h
   ·rename_i us1 G2 h2
    cases h;intro z hz;rcases ko.1 hz with rfl|hz
    ·unfold St.CM at h1
     split at h1
     ·rename_i i n len
      split at h1
      ·rename_i sh aft cs _
       cases hc:(n==sh.length&&Nat.blt 0 n&&Nat.ble (len*n) cs.length) with
       |false=>rw[hc]at h1;cases h1
       |true =>
        rw[hc]at h1;simp only[bC]at h1;split at h1
        ·cases h1;rfl
        ·cases h1
      ·cases h1
     ·cases h1;exact hv _ wC
    ·exact UB h2 (fun v h=>hv v (AW _ h)) z hz
   ·cases h
  ·cases h
theorem afw(hR:R E g S a w){id:Nat}{je:List Sh}(h:gI.run S (.E8 id je)=some S'):∃g',R E g' S' a w:=by
 simp only[gI.run]at h;split at h
 ·rename_i cs eB
  split at h
  ·rename_i us G ht
   cases h;rcases hR.aW id cs eB with⟨rfl,vq⟩ | ⟨cj,fU,hm,c,e,hh,fJ,hj⟩
   ·simp only[vi,Option.some.injEq,Prod.mk.injEq]at ht
    obtain⟨rfl,rfl⟩:=ht;refine⟨g,⟨hR.env,fun i dQ hi=>?_,hR.bf,hR.ay,hR.defers,hR.jg,hR.same⟩⟩;replace hi:look i ((id,[])::S.aW.filter fun p => !(p.1==id))=some dQ:=hi;rw[dj]at hi;by_cases jk:id=i
    ·subst jk
     rw[aP rfl]at hi;cases hi;exact hR.aW id [] eB
    ·rw[aA jk,mG]at hi
     split at hi
     ·cases hi
     ·exact hR.aW i dQ hi
   ·have hle:=JB hj
    have I6:(c.toList.take cs.length).length=cs.length:=by simp;omega
    obtain⟨g',r,q,k⟩:=NR hR ht (xs:=c.toList.take cs.length) ⟨I6.symm,fun i v y hv hy=>by
     obtain⟨_,y',h1,h2⟩:=hj i v hv;rw[kn]at hy;split at hy
     ·have hy:c[i]?=some y:=by simpa using hy
      rw[hy]at h1;cases h1;exact h2
     ·cases hy⟩
    have iX:=UB ht fun v hv=>by
     obtain⟨j,qP⟩:=qB.1 hv;exact(hj j v qP).1
    have pE:g'.κ id=g.κ id:=by
     have:aZ (S.cx g w) (.bG id 0) (.pointer (some ⟨g.κ id,0,none⟩)):=.bG id 0;have h6:=zM (k _ _ this);simp only[Value.pointer.injEq,Option.some.injEq,Addr.mk.injEq]at h6;exact h6.1.symm
    refine⟨g',⟨r.env,fun i dQ hi=>?_,r.bf,r.ay,r.defers,r.jg,r.same⟩⟩;replace hi:look i ((id,us)::S.aW.filter fun p => !(p.1==id))=some dQ:=hi;rw[dj]at hi;by_cases jk:id=i
    ·subst jk
     rw[aP rfl]at hi;cases hi;rcases r.aW id cs eB with⟨h0,vq⟩ | ⟨h1,h2,h3,c',e',h4,h5,_⟩
     ·subst h0
      have:us=[]:=bW.1 (by have:=q.len;simpa using this)
      exact .inl ⟨this,vq⟩
     ·rw[pE,hh]at h4
      cases h4;refine .inr ⟨h1,h2,h3,c,e,by rw[pE];exact hh,h5,fun j v hv=>?_⟩
      have qe:j<(c.toList.take cs.length).length:=by rw[←q.len];exact eJ hv
      have qN:=gG qe;refine⟨iX v (gH hv),_,?_,q.at_ j v _ hv qN⟩;rw[kn]at qN;split at qN
      ·simpa using qN
      ·cases qN
    ·rw[aA jk,mG]at hi
     split at hi
     ·cases hi
     ·exact r.aW i dQ hi
  ·cases h
 ·cases h;exact⟨g,hR⟩
end
end Go.Vm

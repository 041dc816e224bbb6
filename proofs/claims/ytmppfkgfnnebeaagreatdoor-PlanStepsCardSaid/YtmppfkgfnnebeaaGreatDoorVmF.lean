/- The value machine, 15: what lies between the regions. -/
import Derived.Test.YtmppfkgfnnebeaaGreatDoorVmE
namespace Go.Vm
set_option linter.all false
theorem HW{α:Type}{s:Nat}{v:α}{env:List (Nat×α)}:∀{l:List Nat},look s (vp env l)=some v→look s env=some v
 |[],h=>by simp[vp,look]at h
 |k::l,h=>by
  simp only[vp]at h;split at h
  ·rename_i u hu
   rw[dz]at h;split at h
   ·rename_i e;subst e;cases h;exact hu
   ·exact HW h
  ·exact HW h
section
variable {P:Program} {E:Entry} {g g':Gh} {S S':St} {a:Act} {w w':World} {C:bD}
theorem R.keep(hR:R E g S a w)(k:df):R E g (S.keep k) a w :=
 hR.sub (fun _ _ h=>HW h) (fun _ _ h=>HW h) (fun _ _ h=>HW h) rfl
theorem xf:∀{ds:List Nat} {S S':St},S.clean ds=some S'→oE S' S∧∀d∈ds,S'.eN d
 |[],S,S',h=>by simp only[St.clean,Option.some.injEq]at h;subst h;exact⟨.refl S,by simp⟩
 |d::ds,S,S',h=>by
  simp only[St.clean]at h;cases hc:((S.env.filter fun p => !(p.1==d)).all (fun p => !p.2.cq d)&&(S.aW.filter fun p => !(p.1==d)).all (fun p=>p.2.all fun v => !v.cA d)) with
  |false=>rw[hc]at h;cases h
  |true =>
   rw[hc]at h;simp only[bG]at h;simp only[bS,g8,uV]at hc;obtain⟨h1,h2⟩:=xf h;have vI:oE ({ env:=S.env.filter fun p => !(p.1==d),aW:=S.aW.filter fun p => !(p.1==d),bj:=S.bj.filter fun p => !(p.1==d),aA:=S.aA }:St) S:=by
    refine⟨fun s v e=>?_,fun s v e=>?_,fun s v e=>?_,rfl⟩
    all_goals
     simp only[nk]at e;split at e
     ·cases e
     ·exact e
   refine⟨h1.trans vI,fun x hx=>?_⟩;rcases jB.1 hx with e|e
   ·subst e
    refine h1.eN ⟨fun s v hs=>?_,fun id cs ho=>?_,?_,?_⟩
    ·exact hc.1 (s,v) (vx hs)
    ·exact fun v hv=>by have:=hc.2 (id,cs) (vx ho);simp only[g8,uV]at this;exact this v hv
    ·show look x (S.aW.filter _)=none;rw[nk,aM rfl]
    ·show look x (S.bj.filter _)=none;rw[nk,aM rfl]
   ·exact h2 x e
theorem ajA(hR:R E g S a w){s cj sz:Nat}(h:gP.run S (.norm s cj sz)=some S'):∃g',R E g' S' a w:=by
 simp only[gP.run]at h;split at h
 ·rename_i hs
  split at h
  ·rename_i S1 hc
   cases h;obtain⟨hl,hn⟩:=xf hc;have vI:oE ({ S with env:=S.env.filter fun p => !(p.1==s) }:St) S:=by
    refine⟨fun k v e=>?_,fun _ _ e=>e,fun _ _ e=>e,rfl⟩;simp only[nk]at e;split at e
    ·cases e
    ·exact e
   obtain⟨x,hx,hr⟩:=hR.env s _ hs;have:=oV hr;subst this;obtain⟨g',r1,r2,_⟩:=(hR.less (hl.trans vI)).KP (hn cj (by simp))
   refine⟨g',⟨fun k v hk=>?_,r1.aW,r1.bj,r1.aA,r1.defers,r1.js,r1.same⟩⟩;rw[dz]at hk;split at hk
   ·rename_i e
    subst e;cases hk;exact⟨_,hx,r2 sz _ (.inl rfl)⟩
   ·exact r1.env k v hk
  ·cases h
 ·rename_i hs
  split at h
  ·rename_i S1 hc
   cases h;obtain⟨hl,hn⟩:=xf hc;have vI:oE ({ S with env:=S.env.filter fun p => !(p.1==s) }:St) S:=by
    refine⟨fun k v e=>?_,fun _ _ e=>e,fun _ _ e=>e,rfl⟩;simp only[nk]at e;split at e
    ·cases e
    ·exact e
   obtain⟨x,hx,hr⟩:=hR.env s _ hs;have hz:=uk hr;obtain⟨g',r1,r2,_⟩:=(hR.less (hl.trans vI)).KP (hn cj (by simp))
   refine⟨g',⟨fun k v hk=>?_,r1.aW,r1.bj,r1.aA,r1.defers,r1.js,r1.same⟩⟩;rw[dz]at hk;split at hk
   ·rename_i e
    subst e;cases hk;exact⟨_,hx,r2 sz _ hz⟩
   ·exact r1.env k v hk
  ·cases h
 ·cases h;exact⟨g,hR⟩
theorem Xx(hR:R E g S a w){id off cj sz:Nat}(h:S.oT id off cj sz=some S'):∃g',R E g' S' a w:=by
 simp only[St.oT]at h;split at h
 ·rename_i cs ew
  split at h
  ·rename_i jt
   split at h
   ·rename_i S1 hc
    split at h
    ·rename_i Bz zU
     cases h;obtain⟨hl,hn⟩:=xf hc;have fb:=hR.less hl;have ajB:Bz=cs:=by
      have:=hl.aW id Bz zU;rw[ew]at this;exact(Option.some.inj this).symm
     subst ajB;obtain⟨g',r1,r2,r3⟩:=fb.KP (hn cj (by simp))
     refine⟨g',⟨r1.env,fun i dS hi=>?_,r1.bj,r1.aA,r1.defers,r1.js,r1.same⟩⟩;rw[dz]at hi;split at hi
     ·rename_i e
      subst e;cases hi;rcases r1.aW id Bz zU with h0 | ⟨h1,h2,h3,c,e,h4,fU,h5⟩
      ·rw[h0.1]at jt;simp at jt
      refine .inr ⟨h1,h2,h3,c,e,h4,fU,fun j v hj=>?_⟩;rw[jU]at hj;split at hj
      ·rename_i ej
       subst ej;split at hj
       ·cases hj
        obtain⟨_,y,h7,h8⟩:=h5 off _ jt;refine⟨rfl,y,h7,?_⟩;exact r2 sz _ (.inl (oV h8))
       ·cases hj
      ·exact h5 j v hj
     ·exact r1.aW i dS hi
    ·cases h
   ·cases h
  ·cases h;exact⟨g,hR⟩
 ·cases h;exact⟨g,hR⟩
theorem ajC(hR:R E g S a w){id off cj sz:Nat}(h:gP.run S (.oT id off cj sz)=some S'):∃g',R E g' S' a w:=Xx hR h
theorem ajD{X:Cx}{cj:Nat}{v:V}{x:Value}(h:bb X v x):bb X (V.forget cj v) x:=by
 unfold V.forget;split
 ·rename_i f n es
  cases f==cj with
  |false=>exact h
  |true =>
   cases h with
   |plain h _ =>
    refine .plain ?_ (fun _ _ _ e=>by cases e)
    cases h with
    |nil=>exact .nil _ _
    |empty _ _ a cap=>exact .empty _ _ a cap
    |slice _ _ _ b off cap zs hb eo iH hc hv hp hm=>exact .slice _ _ _ b off cap zs hb eo iH hc hv hp hm
 ·exact h
theorem ajE{cj:Nat}{v:V}(h:v.cL=true):(V.forget cj v).cL=true:=by
 unfold V.forget;split
 ·rename_i f n es;cases f==cj<;>rfl
 ·exact h
theorem ajF(hR:R E g S a w){id back cj sz:Nat}(h:gP.run S (.KD id back cj sz)=some S'):∃g',R E g' S' a w:=by
 simp only[gP.run]at h;split at h
 ·rename_i cs ew
  split at h
  ·refine Xx (g:=g) (S:={ S with aW:=(id,cs.map (V.forget cj))::S.aW.filter fun p => !(p.1==id) }) ⟨hR.env,fun i dS hi=>?_,hR.bj,hR.aA,hR.defers,hR.js,hR.same⟩ h
   have hi:look i ((id,cs.map (V.forget cj))::S.aW.filter fun p => !(p.1==id))=some dS:=hi;rw[dz]at hi;by_cases nQ:id=i
   ·subst nQ
    rw[aM rfl]at hi;cases hi;rcases hR.aW id cs ew with h0 | ⟨h1,h2,h3,c,e,h4,fU,h5⟩
    ·exact .inl ⟨by rw[h0.1];rfl,h0.2⟩
    refine .inr ⟨h1,h2,h3,c,e,h4,fU,fun j v hj=>?_⟩;rw[vN]at hj;cases hu:cs[j]? with
    |none=>simp[hu]at hj
    |some u =>
     simp only[hu,nI,Option.some.injEq]at hj;subst hj;obtain⟨q1,y,q2,q3⟩:=h5 j u hu;exact⟨ajE q1,y,q2,ajD q3⟩
   ·rw[ay nQ,nk]at hi
    split at hi
    ·cases hi
    ·exact hR.aW i dS hi
  ·cases h;exact⟨g,hR⟩
 ·cases h;exact⟨g,hR⟩
theorem Xy{α β:Type}{s:Nat}{f:α→β}:∀{l:List (Nat×α)},look s (l.map fun p=>(p.1,f p.2))=(look s l).map f
 |[]=>rfl
 |(k,v)::l=>by
  simp only[oq,dz];split
  ·rfl
  ·exact Xy
theorem ajG(hR:R E g S a w){i b:Nat}(h:gP.run S (.jD i b)=some S'):∃g',R E g' S' a w:=by
 simp only[gP.run]at h;split at h
 ·rename_i S1 hc
  obtain⟨hl,hn⟩:=xf hc;have fb:=hR.less hl;have hn:=hn b (by simp)
  split at h
  ·rename_i cs ew
   cases h;obtain⟨g',r1,r2,r3,_⟩:=fb.HX hn ew;refine⟨g',⟨fun s v hs=>?_,r1.aW,r1.bj,r1.aA,r1.defers,r1.js,r1.same⟩⟩;have hs:look s (S1.env.map fun p=>(p.1,V.jD i b p.2))=some v:=hs;rw[Xy]at hs;cases hu:look s S1.env with
   |none=>simp[hu]at hs
   |some u =>
    simp only[hu,nI,Option.some.injEq]at hs;subst hs;obtain⟨x,hx,hr⟩:=fb.env s u hu;refine⟨x,hx,?_⟩;unfold V.jD;split
    ·rename_i k sz n
     cases hk:k==i with
     |true =>
      have:=eq_of_beq hk;subst this;exact r2 _ _ _ hr
     |false=>exact r3 _ _ hr (hn.env s _ hu)
    ·exact r3 _ _ hr (hn.env s _ hu)
  ·cases h;exact⟨g,fb⟩
 ·cases h
theorem R.frozen(hR:R E g S a w){id off n:Nat}{sh:Sh}{es:List (List V)}{x:Value}(hr:bb (S.cx g w) (.bR id off n) x)(kg:S.sk sh (.bR id off n)=some es) :
  ∃g',R E g' { S with aW:=S.aW.filter fun p => !(p.1==id) } a w∧bb (S.cx g' w) (.slice none sh.length es) x∧∀v x,bb (S.cx g w) v x→bb (S.cx g' w) v x:=by
 obtain⟨lU,n',he,hlen,uy⟩:=Hp hR hr kg;cases he;rcases uy with⟨h0,hz⟩ | ⟨cap,eo,hx,c,e,hh,fC,zF,cr,fZ,hm⟩
 ·subst h0
  obtain rfl:=oo.1 hlen;have vI:oE ({ S with aW:=S.aW.filter fun p => !(p.1==id) }:St) S:=by
   refine⟨fun _ _ e=>e,fun k v e=>?_,fun _ _ e=>e,rfl⟩;simp only[nk]at e;split at e
   ·cases e
   ·exact e
  refine⟨g,hR.less vI,.plain (by rcases hz with rfl | ⟨q,rfl⟩<;>first|exact .nil _ _|exact .empty _ _ q 0) (fun _ _ _ e=>by cases e),fun v x hx=>hx.mono ⟨bV _,fun _ _ _ _ h=>h,fun _ _=>bV _,bV _,fun _ _=>rfl⟩ fun i=>.inl (jg.refl _ i)⟩
 let g':Gh:={ g with m:=c6 g.m (g.κ id) c.size,ow:=c6 g.ow (g.κ id) .none }
 have t:Touch E g S w g' S.bj S.aA.length w (g.κ id) none none :=
  {os:=rfl,tape:=rfl,output:=rfl,size:=bV _,heap:=fun _ _ _=>rfl,m:=fun b hb=>fY _ _ hb,ow:=fun b hb=>fY _ _ hb,κ:=fun _ _=>rfl,cp:=fun _ _=>rfl,τ:=fun _ _=>rfl,T:=fun _ _=>rfl,
   γ:=fun _ _=>rfl,eK:=bV _,γnew:=fun i a b=>absurd a (by omega),fresh:=.inl fZ,iq:=fun p q _ e=>by(have e:c6 g.ow (g.κ id) .none (g.κ id)=.cell p q:=e);rw[dL]at e;exact nomatch e
   lv:=fun i e=>by(have e:c6 g.ow (g.κ id) .none (g.κ id)=.aA i:=e);rw[dL]at e;exact nomatch e
   kb:=fun _ _ _ h=>h,qn:=fun _=>by rw[hm];exact y7 _ }
 have hk:∀i,jg (S.cx g w) ⟨w.heap,g',S.aA.length,S.bj⟩ i:=fun i=>t.keeps hR (fun e=>by cases e) (fun e=>by cases e) (fun _ e=>by rw[cr]at e;cases e)
 have bE:g.κ id<w.heap.size:=by
  rcases cF (g.κ id) w.heap.size with h|h
  ·exact h
  ·simp[mF h]at hh
 refine⟨g',R.oA t hR rfl rfl (fun i=>.inl (hk i)) (fun k v sB=>.inl sB) (fun i dS hi=>?_) (fun f k b hf hb=>.inl ⟨(fun e=>by cases e),fun _ e=>by rw[cr]at e;cases e⟩)
  (fun i o hi=>.inl ⟨hi,fun _=>⟨fun e=>(by rw[cr]at e;cases e),fun _ e=>(by rw[cr]at e;cases e)⟩⟩),?_,fun v x hx=>hx.mono t.le fun i=>.inl (hk i)⟩
 ·have hi:look i (S.aW.filter fun p => !(p.1==id))=some dS:=hi
  rw[nk]at hi;split at hi
  ·cases hi
  ·rename_i cf
   exact .inl ⟨hi,(fun e=>by cases e),fun _ e=>cf (by rw[cr]at e;cases e;rfl)⟩
 ·subst hx
  rw[←hlen];refine .plain (CJ (m:=g'.m) (zF.mono t.le) bE (by omega) (fun j y hj=>?_) ?_ _) (fun _ _ _ e=>by cases e)
  ·show cellAt w.heap (g.κ id) _=_
   rw[kR hh];rw[iP]at hj;split at hj
   ·simpa using hj
   ·cases hj
  ·show _≤c6 g.m (g.κ id) c.size (g.κ id)
   rw[dL,hlen,jV];exact fC
theorem ajH(hR:R E g S a w){s:Nat}{sh:Sh}(h:gP.run S (.freeze s sh)=some S'):∃g',R E g' S' a w:=by
 simp only[gP.run]at h;split at h
 ·rename_i id off n hs
  split at h
  ·rename_i es kg
   cases h;obtain⟨x,hx,hr⟩:=hR.env s _ hs;obtain⟨g',r1,r2,_⟩:=hR.frozen hr kg;refine⟨g',⟨fun k v hk=>?_,r1.aW,r1.bj,r1.aA,r1.defers,r1.js,r1.same⟩⟩;rw[dz]at hk;split at hk
   ·rename_i e
    subst e;cases hk;exact⟨x,hx,r2⟩
   ·exact r1.env k v hk
  ·cases h
 ·cases h;exact⟨g,hR⟩
theorem ajI(hR:R E g S a w){id off:Nat}{sh:Sh}(h:gP.run S (.KE id off sh)=some S'):∃g',R E g' S' a w:=by
 simp only[gP.run]at h;split at h
 ·rename_i cs ew
  split at h
  ·rename_i i s n jt
   split at h
   ·rename_i es kg
    cases jH:i==id with
    |true=>simp[jH]at h
    |false =>
     simp only[jH,eD]at h;cases h;have cf:id≠i:=fun e=>by subst e;simp at jH
     obtain⟨_,_,_,c,e,hh,_,hj⟩:=(hR.aW id cs ew).resolve_left (fun h0=>by rw[h0.1]at jt;simp at jt)
     obtain⟨_,y,hy,hr⟩:=hj off _ jt;obtain⟨g',r1,r2,r3⟩:=hR.frozen hr kg;have zU:look id (S.aW.filter fun p => !(p.1==i))=some cs:=by rw[nk,ay cf];exact ew
     refine⟨g',⟨r1.env,fun k dS hk=>?_,r1.bj,r1.aA,r1.defers,r1.js,r1.same⟩⟩;have hk:look k ((id,cs.set off (.slice none sh.length es))::(S.aW.filter fun p => !(p.1==i)).filter fun p => !(p.1==id))=some dS:=hk;rw[dz]at hk;by_cases kh:id=k
     ·subst kh
      rw[aM rfl]at hk;cases hk;obtain⟨h1,h2,h3,c',e',h4,fU,h5⟩:=(r1.aW id cs zU).resolve_left (fun h0=>by rw[h0.1]at jt;simp at jt)
      refine .inr ?_;have qp:g'.κ id=g.κ id:=by
       have:bb (S.cx g w) (.bJ id 0) (.pointer (some ⟨g.κ id,0,none⟩)):=.bJ id 0;have h6:=Ba (r3 _ _ this);simp only[Value.pointer.injEq,Option.some.injEq,Addr.mk.injEq]at h6;exact h6.1.symm
      have xg:c'=c:=by
       rw[qp,hh]at h4;cases h4;rfl
      subst xg;refine⟨h1,h2,h3,c',e',h4,fU,fun j v sC=>?_⟩;rw[jU]at sC;split at sC
      ·rename_i ej
       subst ej;split at sC
       ·cases sC
        exact⟨rfl,y,hy,r2⟩
       ·cases sC
      ·exact h5 j v sC
     ·rw[ay kh,nk]at hk
      split at hk
      ·cases hk
      ·exact r1.aW k dS hk
   ·cases h
  ·cases h;exact⟨g,hR⟩
 ·cases h;exact⟨g,hR⟩
theorem Xz(hR:R E g S a w){s id sz:Nat}{v:V}(hs:look s S.env=some v)(hz:∀x,bb (S.cx g w) v x→lL x)(h:S.sj s id sz=some S'):∃g',R E g' S' a w:=by
 unfold St.sj at h;split at h
 ·rename_i S1 hc
  cases h;obtain⟨hl,hn⟩:=xf hc;obtain⟨x,hx,hr⟩:=hR.env s _ hs;obtain⟨g',r1,_,r2,_⟩:=(hR.less (hl.trans P4)).Ln (hn id (by simp)) 0
  refine⟨g',⟨fun k v hk=>?_,r1.aW,r1.bj,r1.aA,r1.defers,r1.js,r1.same⟩⟩;replace hk:look k ((s,.bR id sz 0)::S1.env)=some v:=hk;rw[dz]at hk;split at hk
  ·rename_i e;subst e;cases hk;exact⟨x,hx,.qP _ _ (hz x hr) r2⟩
  ·exact r1.env k v hk
 ·cases h
theorem ajJ(hR:R E g S a w){s id sz:Nat}(h:gP.run S (.sj s id sz)=some S'):∃g',R E g' S' a w:=by
 simp only[gP.run]at h;split at h
 ·rename_i hs;exact Xz hR hs (fun x hx=>.inl (oV hx)) h
 ·rename_i hs;exact Xz hR hs (fun x hx=>uk hx) h
 ·cases h;exact⟨g,hR⟩
theorem ajK(hR:R E g S a w){s:Nat}{sh:Sh}(h:gP.run S (.share s sh)=some S'):∃g',R E g' S' a w:=by
 simp only[gP.run]at h;split at h
 ·rename_i id n len hs
  split at h
  ·rename_i es S1 kg hc
   cases h;obtain⟨hl,hn⟩:=xf hc;have hn:=hn id (by simp)
   have hl:=hl.trans P4;obtain⟨x,hx,hr⟩:=hR.env s _ hs;obtain⟨lU,n',he,hlen,uy⟩:=Hp hR hr kg;cases he;have fb:=hR.less hl;rcases uy with⟨h0,hz⟩ | ⟨cap,eo,Lo,c,e,hh,fC,zF,cr,fZ,hm⟩
   ·subst h0
    obtain rfl:=oo.1 hlen;have uA:R E g { S1 with env:=(s,.dY 0)::S1.env } a w:=⟨fun k v hk=>by
     replace hk:look k ((s,.dY 0)::S1.env)=some v:=hk;rw[dz]at hk;split at hk
     ·rename_i e;subst e;cases hk;exact⟨x,hx,.dY hz⟩
     ·exact fb.env k v hk,fb.aW,fb.bj,fb.aA,fb.defers,fb.js,fb.same⟩
    obtain⟨g',r⟩:=Lp (n:=sh.length) uA (s:=s) (v:=.dY 0) (by show look s ((s,.dY 0)::S1.env)=_;rw[dz,aM rfl]) (fun x hx=>uk hx)
    refine⟨g',⟨fun k v hk=>?_,r.aW,r.bj,r.aA,r.defers,r.js,r.same⟩⟩;refine r.env k v ?_;replace hk:look k ((s,.c5 S1.aA.length sh.length 0)::S1.env)=some v:=hk;show look k ((s,.c5 S1.aA.length sh.length 0)::(s,.dY 0)::S1.env)=some v;rw[dz]at hk ⊢;split at hk
    ·rename_i e;rw[aM e];exact hk
    ·rename_i e;rw[ay e,dz,ay e];exact hk
   ·obtain⟨f1,f2⟩:=zQ zF
    obtain⟨g',r1,r2,_⟩:=fb.P5 (id:=id) (n:=sh.length) hn cr fZ hm hh Lo eo (us:=es.flatten) (fun j v hv=>by
     obtain⟨q1,y,q2,q3⟩:=f2 j v hv;rw[iP]at q2;split at q2
     ·exact⟨q1,y,by simpa using q2,q3⟩
     ·cases q2)
    refine⟨g',⟨fun k u hk=>?_,r1.aW,r1.bj,r1.aA,r1.defers,r1.js,r1.same⟩⟩;replace hk:look k ((s,.c5 S1.aA.length sh.length es.length)::S1.env)=some u:=hk;rw[dz]at hk;split at hk
    ·rename_i e;subst e;cases hk;rw[hlen];exact⟨x,hx,r2⟩
    ·exact r1.env k u hk
  ·cases h
 ·rename_i hs;cases h;exact Lp hR hs (fun x hx=>.inl (oV hx))
 ·rename_i hs;cases h;exact Lp hR hs (fun x hx=>uk hx)
 ·cases h
theorem R.P6(hR:R E g S a w){id off:Nat}{cs:List V}{v0 v1:V}(ew:look id S.aW=some cs)(jt:cs[off]?=some v0)(hc:v1.cL=true)(hx:∀y,bb (S.cx g w) v0 y→bb (S.cx g w) v1 y) :
  R E g { S with aW:=(id,cs.set off v1)::S.aW } a w :=
 ⟨hR.env,fun k dS hk=>by
  replace hk:look k ((id,cs.set off v1)::S.aW)=some dS:=hk;rw[dz]at hk;split at hk
  ·rename_i e
   subst e;cases hk;obtain⟨h1,h2,h3,c,e,h4,h5,h6⟩:=(hR.aW id cs ew).resolve_left (fun h=>by rw[h.1]at jt;simp at jt)
   refine .inr ⟨h1,h2,h3,c,e,h4,h5,fun j v hj=>?_⟩;rw[jU]at hj;split at hj
   ·rename_i ej
    subst ej;split at hj
    ·cases hj
     obtain⟨_,y,h7,h8⟩:=h6 off _ jt;exact⟨hc,y,h7,hx y h8⟩
    ·cases hj
   ·exact h6 j v hj
  ·exact hR.aW k dS hk,hR.bj,hR.aA,hR.defers,hR.js,hR.same⟩
theorem XA{S S1:St}(hl:oE S1 S){id:Nat}{cs Bz:List V}(h:look id S.aW=some cs)(h1:look id S1.aW=some Bz):Bz=cs:=by
 have:=hl.aW id Bz h1;rw[h]at this;exact(Option.some.inj this).symm
theorem ajL(hR:R E g S a w){id off i sz:Nat}(h:gP.run S (.wP id off i sz)=some S'):∃g',R E g' S' a w:=by
 simp only[gP.run,St.wP]at h;split at h
 ·rename_i cs ew
  split at h
  ·rename_i jt
   split at h
   ·rename_i S1 hc
    split at h
    ·rename_i Bz zU
     cases h;obtain⟨hl,hn⟩:=xf hc;obtain rfl:=XA hl ew zU;have hn:=hn i (by simp)
     obtain⟨g',r1,_,r2,_⟩:=(hR.less hl).Ln hn 0;have cf:i≠id:=fun e=>by subst e;rw[hn.obj]at zU;cases zU
     exact⟨g',r1.P6 (v0:=.cb) (by show look id ((i,[])::S1.aW)=_;rw[dz,ay cf];exact zU) jt rfl fun y hy=>.qP _ _ (.inl (oV hy)) r2⟩
    ·cases h
   ·cases h
  ·cases h;exact⟨g,hR⟩
 ·cases h;exact⟨g,hR⟩
theorem ajM(hR:R E g S a w){i b id off:Nat}(h:gP.run S (.A1 i b id off)=some S'):∃g',R E g' S' a w:=by
 simp only[gP.run,St.A1]at h;split at h
 ·rename_i ds pV
  split at h
  ·rename_i k s n jt
   cases E2:(k==i && !(id==i)) with
   |false=>simp only[E2,eD]at h;cases h;exact⟨g,hR⟩
   |true =>
    simp only[E2,bG]at h;simp only[bS,dO,uV,A0]at E2;obtain⟨rfl,cf⟩:=E2;split at h
    ·rename_i S1 hc
     split at h
     ·rename_i cs P7 ew Lq
      cases h;obtain⟨hl,hn⟩:=xf hc;obtain rfl:=XA hl pV Lq;have hn:=hn b (by simp)
      obtain⟨g',r1,_,_,r4⟩:=(hR.less hl).HX hn ew;have P8:b≠id:=fun e=>by subst e;rw[hn.obj]at Lq;cases Lq
      refine⟨g',(r1.P6 (v0:=.bR k s n) (by show look id ((b,cs)::S1.aW.filter fun p => !(p.1==k))=_;rw[dz,ay P8,nk,ay cf];exact Lq) jt rfl fun y hy=>r4 _ _ _ hy).less ⟨fun _ _ e=>e,fun m v e=>?_,fun _ _ e=>e,rfl⟩⟩
      simp only at e ⊢;rw[dz]at e ⊢;split
      ·rename_i e1;rw[aM e1]at e;exact e
      ·rename_i e1
       rw[ay e1,dz]at e;rw[dz];split
       ·rename_i e2;rw[aM e2]at e;exact e
       ·rename_i e2
        rw[ay e2,nk,nk]at e;rw[nk];split at e
        ·cases e
        ·rename_i e3
         rw[ay e3];split at e
         ·cases e
         ·exact e
     ·cases h
    ·cases h
  ·cases h;exact⟨g,hR⟩
 ·cases h;exact⟨g,hR⟩
theorem ajN(hR:R E g S a w){id off:Nat}{sh:Sh}(h:gP.run S (.A2 id off sh)=some S'):∃g',R E g' S' a w:=by
 simp only[gP.run,St.A2]at h;split at h
 ·rename_i ds pV
  split at h
  ·rename_i i s n jt
   cases yq:(n==0) with
   |true =>
    simp only[yq,bG]at h;cases h;have:=eq_of_beq yq;subst this;refine⟨g,hR.P6 pV jt rfl fun y hy=>.plain ?_ (fun _ _ _ e=>by cases e)⟩
    rcases qR hy with⟨cap,_,_,rfl⟩ | ⟨_,rfl | ⟨q,rfl⟩,_⟩
    ·exact .empty _ _ _ _
    ·exact .nil _ _
    ·exact .empty _ _ _ _
   |false =>
    simp only[yq,eD]at h;split at h
    ·rename_i es S1 kg hc
     cases jH:i==id with
     |true=>simp only[jH,bG]at h;cases h
     |false =>
      simp only[jH,eD]at h;cases h;have cf:i≠id:=fun e=>by subst e;simp at jH
      obtain⟨hl,hn⟩:=xf hc;have hn:=hn i (by simp)
      have vI:oE ({ S with aW:=S.aW.filter fun p => !(p.1==id) }:St) S:=by
       refine⟨fun _ _ e=>e,fun k v e=>?_,fun _ _ e=>e,rfl⟩;simp only[nk]at e;split at e
       ·cases e
       ·exact e
      have fb:=hR.less (hl.trans vI);obtain⟨o1,o2,o3,c,e,o4,o5,o6⟩:=(hR.aW id ds pV).resolve_left (fun h=>by rw[h.1]at jt;simp at jt)
      obtain⟨_,y,q1,q2⟩:=o6 off _ jt;obtain⟨lU,n',he,hlen,uy⟩:=Hp hR q2 kg;cases he;obtain⟨cap,eo,Lo,c',e',hh,fC,zF,cr,fZ,hm⟩:=uy.resolve_left (fun h=>by rw[h.1]at yq;simp at yq)
      obtain⟨f1,f2⟩:=zQ zF;obtain⟨g',r1,r2,m1,m2,m3,m4,m5⟩:=fb.P5 (id:=i) (n:=sh.length) hn cr fZ hm hh Lo eo (us:=es.flatten) (fun j v hv=>by
       obtain⟨q1,y,q2,q3⟩:=f2 j v hv;rw[iP]at q2;split at q2
       ·exact⟨q1,y,by simpa using q2,q3⟩
       ·cases q2)
      refine⟨g',⟨r1.env,fun k dS hk=>?_,r1.bj,r1.aA,r1.defers,r1.js,r1.same⟩⟩;replace hk:look k ((id,ds.set off (.c5 S1.aA.length sh.length n))::S1.aW)=some dS:=hk;rw[dz]at hk;split at hk
      ·rename_i ee
       subst ee;cases hk;have qp:g.κ id≠g.κ i:=fun h=>by
        rw[h,cr]at o1;injection o1 with o1;exact cf o1
       refine .inr ⟨by rw[m2,m4 _ qp];exact o1,by rw[m2];exact o2,by rw[m1,m2];exact o3,c,e,by rw[m2];exact o4,by rw[m3];exact o5,fun j v hj=>?_⟩
       rw[jU]at hj;split at hj
       ·rename_i ej
        subst ej;split at hj
        ·cases hj
         exact⟨rfl,y,q1,r2⟩
        ·cases hj
       ·obtain⟨z1,z,z2,z3⟩:=o6 j v hj
        exact⟨z1,z,z2,m5 _ _ ((hl.trans vI).rel z3)⟩
      ·exact r1.aW k dS hk
    ·cases h
  ·cases h;exact⟨g,hR⟩
 ·cases h;exact⟨g,hR⟩
theorem R.dead(hR:R E g S a w)(i:Nat):R E g { S with aA:=S.aA.set i (.cells []) } a w:=by
 have hl:(S.aA.set i (aS.cells [])).length=S.aA.length:=by simp
 have mJ:(({ S with aA:=S.aA.set i (.cells []) }:St).cx g w)=S.cx g w:=by simp[St.cx]
 refine⟨by rw[mJ];exact hR.env,by rw[mJ];exact hR.aW,hR.bj,⟨fun k o hk=>?_,fun k o hk=>?_,fun b k ho=>by rw[hl];exact hR.aA.z b k ho⟩,hR.defers,hR.js,by rw[hl];exact hR.same⟩
 ·rw[hl]
  simp only[jU]at hk;split at hk
  ·split at hk
   ·cases hk;exact .inl rfl
   ·cases hk
  ·exact hR.aA.obj k o hk
 ·simp only[jU]at hk
  split at hk
  ·split at hk
   ·cases hk;exact fun j n es y hj=>by simp at hj
   ·cases hk
  ·exact hR.aA.own k o hk
theorem XB(hR:R E g S a w){jE ajO:List Sh}{v u:V}{G:List aS}{x:Value}(hr:bb (S.cx g w) v x)(h:St.Eo S.aA jE v=some (u,ajO,G)) :
  ∃g',R E g' { S with aA:=G } a w∧bb (({ S with aA:=G }:St).cx g' w) u x∧∀v x,bb (S.cx g w) v x→bb (({ S with aA:=G }:St).cx g' w) v x:=by
 unfold St.Eo at h;split at h
 ·rename_i i n len
  split at h
  ·rename_i sh ajP cs eO
   cases hc:(n==sh.length&&Nat.blt 0 n&&Nat.ble (len*n) cs.length) with
   |false=>simp[hc]at h
   |true =>
    simp only[hc,bG]at h;simp only[bS,dO]at hc;obtain⟨⟨rfl,gy⟩,hle⟩:=hc;have gy:0<sh.length:=by simpa [AZ] using gy
    have hle:=il hle;split at h
    ·rename_i es mw
     cases h;have hlen:es.length=len:=by
      obtain⟨h1,_⟩:=OR mw;rw[OS]at h1;exact h1
     have mJ:(({ S with aA:=S.aA.set i (.cells []) }:St).cx g w)=S.cx g w:=by simp[St.cx]
     have hz:len=0→∃g',R E g' { S with aA:=S.aA.set i (.cells []) } a w∧bb (({ S with aA:=S.aA.set i (.cells []) }:St).cx g' w) (.slice none sh.length es) x∧∀v x,bb (S.cx g w) v x→bb (({ S with aA:=S.aA.set i (.cells []) }:St).cx g' w) v x:=fun h0=>by
      subst h0;obtain rfl:=oo.1 hlen;refine⟨g,hR.dead i,.plain ?_ (fun _ _ _ e=>by cases e),fun v x hx=>by rw[mJ];exact hx⟩
      obtain⟨_,⟨cap,_,e⟩ | ⟨_,e | ⟨q,e⟩⟩⟩:=Et hr
      ·rw[e];exact .empty _ _ _ _
      ·rw[e];exact .nil _ _
      ·rw[e];exact .empty _ _ _ _
     rcases mq len with h0|h0
     ·exact hz h0
     obtain⟨hi,hx⟩:=Et hr;obtain⟨cap,eo,e1⟩:=hx.resolve_right (fun h=>by have:=h.1;omega)
     have cf:cs≠[]:=fun e=>by
      subst e;simp only[tc,Nat.le_zero,Ky]at hle;omega
     obtain⟨cr,hm,c,e,hh,dC,hj⟩:=(hR.aA.obj i _ eO).resolve_left (fun e=>cf (by cases e;rfl))
     have nM:Le ⟨w.heap,g,S.aA.length,[]⟩ (S.cx g w):=⟨bV _,fun _ _ _ _ h=>h,fun _ _=>bV _,bV _,fun _ _=>rfl⟩;obtain⟨h1,h2⟩:=KO (X:=S.cx g w) (c:=c) (cs:=cs.map V.jr) (off:=0) (fun j v hv=>by
      rw[vN]at hv;cases Ls:cs[j]? with
      |none=>simp[Ls]at hv
      |some v0 =>
       simp[Ls]at hv;subst hv;have bE:j<c.size:=iC (eQ Ls) dC;obtain⟨_,q2,q3⟩:=hj j v0 c[j] Ls (by simp[bE])
       exact⟨c[j],by simp[bE],OP (q3.mono nM (fun d=>.inr (q2 d)))⟩) (by simp;exact hle) mw
     simp only[uY]at h2
     let g':Gh:={ g with m:=c6 g.m (g.γ i) (len*sh.length),ow:=c6 g.ow (g.γ i) .none }
     have t:Touch E g S w g' S.bj S.aA.length w (g.γ i) none none :=
      {os:=rfl,tape:=rfl,output:=rfl,size:=bV _,heap:=fun _ _ _=>rfl,m:=fun b hb=>fY _ _ hb,ow:=fun b hb=>fY _ _ hb,κ:=fun _ _=>rfl,cp:=fun _ _=>rfl,
       τ:=fun _ _=>rfl,T:=fun _ _=>rfl,γ:=fun _ _=>rfl,eK:=bV _,γnew:=fun i a b=>absurd a (by omega)
       fresh:=(hR.HC cr).imp (fun z=>z) .inl,iq:=fun p q hb e=>by(have e:c6 g.ow (g.γ i) .none (g.γ i)=.cell p q:=e);rw[dL]at e;cases e
       lv:=fun k e=>by(have e:c6 g.ow (g.γ i) .none (g.γ i)=.aA k:=e);rw[dL]at e;cases e
       kb:=fun _ _ _ hy=>hy,qn:=fun _=>by rw[hm];exact y7 _ }
     have zX:∀k,jg (S.cx g w) ⟨w.heap,g',S.aA.length,S.bj⟩ k:=fun k=>t.keeps hR (fun e=>by cases e) (fun e=>by cases e) (fun _ e=>by rw[cr]at e;cases e)
     have XC:(({ S with aA:=S.aA.set i (.cells []) }:St).cx g' w)=⟨w.heap,g',S.aA.length,S.bj⟩:=by simp[St.cx]
     refine⟨g',R.Hf t hR rfl (by simp) (fun k=>.inl (zX k)) (fun s v hs=>.inl hs) (fun k dS ho=>.inl ⟨ho,(fun e=>by cases e),fun _ e=>by rw[cr]at e;cases e⟩)
      (fun f k b hf hb=>.inl ⟨(fun e=>by cases e),fun _ e=>by rw[cr]at e;cases e⟩) (fun k o hk h0=>?_),?_,fun v x hx=>by rw[XC];exact hx.mono t.le fun k=>.inl (zX k)⟩
     ·simp only[jU]at hk
      split at hk
      ·split at hk
       ·cases hk;exact absurd rfl h0
       ·cases hk
      ·rename_i cf
       exact .inl ⟨hk,fun _=>⟨fun e=>cf (by rw[cr]at e;cases e;rfl),fun _ e=>by rw[cr]at e;cases e⟩⟩
     ·rw[XC,e1,← hlen]
      refine .plain (CJ (m:=g'.m) (h2.mono t.le) (iC (EF hR eO (fun e=>cf (by cases e;rfl))) (bV _)) (by omega) (fun j y sA=>?_) ?_ _) (fun _ _ _ e=>by cases e)
      ·show cellAt w.heap (g.γ i) _=_
       rw[kR hh];rw[iP]at sA;split at sA
       ·simpa using sA
       ·cases sA
      ·show _≤c6 g.m (g.γ i) (len*sh.length) (g.γ i)
       rw[dL,hlen,jV];exact bV _
    ·cases h
  ·cases h
 ·cases h;exact⟨g,hR,hr,fun v x hx=>hx⟩
theorem P9:∀{S:St} {g:Gh} (hR:R E g S a w) {jE:List Sh} {vs us:List V} {G:List aS},wQ S.aA jE vs=some (us,G)→∀{xs:List Value},PW (S.cx g w) vs xs →
  ∃g',R E g' { S with aA:=G } a w∧PW (({ S with aA:=G }:St).cx g' w) us xs∧∀v x,bb (S.cx g w) v x→bb (({ S with aA:=G }:St).cx g' w) v x
 |S,g,hR,jE,[],us,G,h,xs,hp=>by
  simp only[wQ,Option.some.injEq,Prod.mk.injEq]at h;obtain⟨rfl,rfl⟩:=h;exact⟨g,hR,hp,fun v x hx=>hx⟩
 |S,g,hR,jE,v::vs,us,G,h,xs,hp=>by
  simp only[wQ]at h;split at h
  ·rename_i u XD G1 h1
   split at h
   ·rename_i us1 G2 h2
    cases h
    match xs,hp.len with
    |x::xs,hl =>
     obtain⟨g1,r1,q1,k1⟩:=XB hR (hp.at_ 0 v x rfl rfl) h1;obtain⟨g2,r2,q2,k2⟩:=P9 (S:={ S with aA:=G1 }) r1 h2 (xs:=xs) ⟨by simpa using hl,fun j v y hv hy=>k1 v y (hp.at_ (j+1) v y (by simpa using hv) (by simpa using hy))⟩
     refine⟨g2,r2,⟨by simp[q2.len],fun j v y hv hy=>?_⟩,fun v x hx=>k2 v x (k1 v x hx)⟩
     cases j with
     |zero=>simp at hv hy;subst hv;subst hy;exact k2 _ _ q1
     |succ j=>exact q2.at_ j v y (by simpa using hv) (by simpa using hy)
   ·cases h
  ·cases h
theorem ajR(hR:R E g S a w){s:Nat}{jE:List Sh}(h:gP.run S (.KF s jE)=some S'):∃g',R E g' S' a w:=by
 simp only[gP.run]at h;split at h
 ·rename_i cs hs
  split at h
  ·rename_i us G ht
   cases h;obtain⟨x,hx,hr⟩:=hR.env s _ hs;obtain⟨xs,rfl,hl,HY⟩:=qS hr;obtain⟨g',r,q,_⟩:=P9 hR ht (xs:=xs.toList) ⟨by simpa using hl,fun i v y hv hy=>HY i v y hv (by simpa using hy)⟩
   refine⟨g',⟨fun k v hk=>?_,r.aW,r.bj,r.aA,r.defers,r.js,r.same⟩⟩;replace hk:look k ((s,.agg us)::S.env)=some v:=hk;rw[dz]at hk;split at hk
   ·rename_i e;subst e;cases hk
    exact⟨_,hx,.agg _ _ (by simpa using q.len) (fun i v y hv hy=>q.at_ i v y hv (by simpa using hy))⟩
   ·exact r.env k v hk
  ·cases h
 ·rename_i v _ hs
  split at h
  ·rename_i u XD G ht
   cases h;obtain⟨x,hx,hr⟩:=hR.env s _ hs;obtain⟨g',r,q,_⟩:=XB hR hr ht;refine⟨g',⟨fun k v hk=>?_,r.aW,r.bj,r.aA,r.defers,r.js,r.same⟩⟩;replace hk:look k ((s,u)::S.env)=some v:=hk;rw[dz]at hk;split at hk
   ·rename_i e;subst e;cases hk;exact⟨x,hx,q⟩
   ·exact r.env k v hk
  ·cases h
 ·cases h
theorem XE:∀{G G':List aS} {jE:List Sh} {vs us:List V},wQ G jE vs=some (us,G')→(∀v∈vs,v.cL=true)→∀u∈us,u.cL=true
 |G,G',jE,[],us,h,_=>by simp only[wQ,Option.some.injEq,Prod.mk.injEq]at h;obtain⟨rfl,rfl⟩:=h;simp
 |G,G',jE,v::vs,us,h,hv=>by
  simp only[wQ]at h;split at h
  ·rename_i u XD G1 h1
   split at h
   ·rename_i us1 G2 h2
    cases h;intro z hz;rcases jB.1 hz with rfl|hz
    ·unfold St.Eo at h1
     split at h1
     ·rename_i i n len
      split at h1
      ·rename_i sh ajP cs _
       cases hc:(n==sh.length&&Nat.blt 0 n&&Nat.ble (len*n) cs.length) with
       |false=>rw[hc]at h1;cases h1
       |true =>
        rw[hc]at h1;simp only[bG]at h1;split at h1
        ·cases h1;rfl
        ·cases h1
      ·cases h1
     ·cases h1;exact hv _ xW
    ·exact XE h2 (fun v h=>hv v (Cn _ h)) z hz
   ·cases h
  ·cases h
theorem ajS(hR:R E g S a w){id:Nat}{jE:List Sh}(h:gP.run S (.G9 id jE)=some S'):∃g',R E g' S' a w:=by
 simp only[gP.run]at h;split at h
 ·rename_i cs ew
  split at h
  ·rename_i us G ht
   cases h;rcases hR.aW id cs ew with⟨rfl,wW⟩ | ⟨cr,fZ,hm,c,e,hh,fU,hj⟩
   ·simp only[wQ,Option.some.injEq,Prod.mk.injEq]at ht
    obtain⟨rfl,rfl⟩:=ht;refine⟨g,⟨hR.env,fun i dS hi=>?_,hR.bj,hR.aA,hR.defers,hR.js,hR.same⟩⟩;replace hi:look i ((id,[])::S.aW.filter fun p => !(p.1==id))=some dS:=hi;rw[dz]at hi;by_cases jH:id=i
    ·subst jH
     rw[aM rfl]at hi;cases hi;exact hR.aW id [] ew
    ·rw[ay jH,nk]at hi
     split at hi
     ·cases hi
     ·exact hR.aW i dS hi
   ·have hle:=Lt hj
    have Ey:(c.toList.take cs.length).length=cs.length:=by simp;omega
    obtain⟨g',r,q,k⟩:=P9 hR ht (xs:=c.toList.take cs.length) ⟨Ey.symm,fun i v y hv hy=>by
     obtain⟨_,y',h1,h2⟩:=hj i v hv;rw[iP]at hy;split at hy
     ·have hy:c[i]?=some y:=by simpa using hy
      rw[hy]at h1;cases h1;exact h2
     ·cases hy⟩
    have jw:=XE ht fun v hv=>by
     obtain⟨j,sC⟩:=nH.1 hv;exact(hj j v sC).1
    have qp:g'.κ id=g.κ id:=by
     have:bb (S.cx g w) (.bJ id 0) (.pointer (some ⟨g.κ id,0,none⟩)):=.bJ id 0;have h6:=Ba (k _ _ this);simp only[Value.pointer.injEq,Option.some.injEq,Addr.mk.injEq]at h6;exact h6.1.symm
    refine⟨g',⟨r.env,fun i dS hi=>?_,r.bj,r.aA,r.defers,r.js,r.same⟩⟩;replace hi:look i ((id,us)::S.aW.filter fun p => !(p.1==id))=some dS:=hi;rw[dz]at hi;by_cases jH:id=i
    ·subst jH
     rw[aM rfl]at hi;cases hi;rcases r.aW id cs ew with⟨h0,wW⟩ | ⟨h1,h2,h3,c',e',h4,h5,_⟩
     ·subst h0
      have:us=[]:=oo.1 (by have:=q.len;simpa using this)
      exact .inl ⟨this,wW⟩
     ·rw[qp,hh]at h4
      cases h4;refine .inr ⟨h1,h2,h3,c,e,by rw[qp];exact hh,h5,fun j v hv=>?_⟩
      have qX:j<(c.toList.take cs.length).length:=by rw[←q.len];exact eQ hv
      have sA:=fN qX;refine⟨jw v (fW hv),_,?_,q.at_ j v _ hv sA⟩;rw[iP]at sA;split at sA
      ·simpa using sA
      ·cases sA
    ·rw[ay jH,nk]at hi
     split at hi
     ·cases hi
     ·exact r.aW i dS hi
  ·cases h
 ·cases h;exact⟨g,hR⟩
end
end Go.Vm

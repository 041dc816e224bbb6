/- The value machine, 15: what lies between the regions. -/
import Derived.Test.YtcelmhaoipbdiaaGreatVmE
namespace Go.Vm
set_option linter.all false
theorem Ii{α:Type}{s:Nat}{v:α}{env:List (Nat×α)}:∀{l:List Nat},look s (vG env l)=some v→look s env=some v
 |[],h=>by simp[vG,look]at h
 |k::l,h=>by
  simp only[vG]at h;split at h
  ·rename_i u hu
   rw[dL]at h;split at h
   ·rename_i e;subst e;cases h;exact hu
   ·exact Ii h
  ·exact Ii h
section
variable {P:Program} {E:Entry} {g g':Gh} {S S':St} {a:Act} {w w':World} {C:bD}
theorem R.keep(hR:R E g S a w)(k:dj):R E g (S.keep k) a w :=
 hR.sub (fun _ _ h=>Ii h) (fun _ _ h=>Ii h) (fun _ _ h=>Ii h) rfl
theorem xj:∀{ds:List Nat} {S S':St},S.clean ds=some S'→oW S' S∧∀d∈ds,S'.fb d
 |[],S,S',h=>by simp only[St.clean,Option.some.injEq]at h;subst h;exact⟨.refl S,by simp⟩
 |d::ds,S,S',h=>by
  simp only[St.clean]at h;cases hc:((S.env.filter fun p => !(p.1==d)).all (fun p => !p.2.cA d)&&(S.aZ.filter fun p => !(p.1==d)).all (fun p=>p.2.all fun v => !v.cI d)) with
  |false=>rw[hc]at h;cases h
  |true =>
   rw[hc]at h;simp only[bM]at h;simp only[b8,iL,vm]at hc;obtain⟨h1,h2⟩:=xj h;have vW:oW ({ env:=S.env.filter fun p => !(p.1==d),aZ:=S.aZ.filter fun p => !(p.1==d),bl:=S.bl.filter fun p => !(p.1==d),aD:=S.aD }:St) S:=by
    refine⟨fun s v e=>?_,fun s v e=>?_,fun s v e=>?_,rfl⟩
    all_goals
     simp only[nN]at e;split at e
     ·cases e
     ·exact e
   refine⟨h1.trans vW,fun x hx=>?_⟩;rcases jQ.1 hx with e|e
   ·subst e
    refine h1.fb ⟨fun s v hs=>?_,fun id cs ho=>?_,?_,?_⟩
    ·exact hc.1 (s,v) (vO hs)
    ·exact fun v hv=>by have:=hc.2 (id,cs) (vO ho);simp only[iL,vm]at this;exact this v hv
    ·show look x (S.aZ.filter _)=none;rw[nN,aK rfl]
    ·show look x (S.bl.filter _)=none;rw[nN,aK rfl]
   ·exact h2 x e
theorem akl(hR:R E g S a w){s cn sz:Nat}(h:iv.run S (.norm s cn sz)=some S'):∃g',R E g' S' a w:=by
 simp only[iv.run]at h;split at h
 ·rename_i hs
  split at h
  ·rename_i S1 hc
   cases h;obtain⟨hl,hn⟩:=xj hc;have vW:oW ({ S with env:=S.env.filter fun p => !(p.1==s) }:St) S:=by
    refine⟨fun k v e=>?_,fun _ _ e=>e,fun _ _ e=>e,rfl⟩;simp only[nN]at e;split at e
    ·cases e
    ·exact e
   obtain⟨x,hx,hr⟩:=hR.env s _ hs;have:=pB hr;subst this;obtain⟨g',r1,r2,_⟩:=(hR.less (hl.trans vW)).Lj (hn cn (by simp))
   refine⟨g',⟨fun k v hk=>?_,r1.aZ,r1.bl,r1.aD,r1.defers,r1.kb,r1.same⟩⟩;rw[dL]at hk;split at hk
   ·rename_i e
    subst e;cases hk;exact⟨_,hx,r2 sz _ (.inl rfl)⟩
   ·exact r1.env k v hk
  ·cases h
 ·rename_i hs
  split at h
  ·rename_i S1 hc
   cases h;obtain⟨hl,hn⟩:=xj hc;have vW:oW ({ S with env:=S.env.filter fun p => !(p.1==s) }:St) S:=by
    refine⟨fun k v e=>?_,fun _ _ e=>e,fun _ _ e=>e,rfl⟩;simp only[nN]at e;split at e
    ·cases e
    ·exact e
   obtain⟨x,hx,hr⟩:=hR.env s _ hs;have hz:=uH hr;obtain⟨g',r1,r2,_⟩:=(hR.less (hl.trans vW)).Lj (hn cn (by simp))
   refine⟨g',⟨fun k v hk=>?_,r1.aZ,r1.bl,r1.aD,r1.defers,r1.kb,r1.same⟩⟩;rw[dL]at hk;split at hk
   ·rename_i e
    subst e;cases hk;exact⟨_,hx,r2 sz _ hz⟩
   ·exact r1.env k v hk
  ·cases h
 ·cases h;exact⟨g,hR⟩
theorem Yg(hR:R E g S a w){id off cn sz:Nat}(h:S.px id off cn sz=some S'):∃g',R E g' S' a w:=by
 simp only[St.px]at h;split at h
 ·rename_i cs eX
  split at h
  ·rename_i jS
   split at h
   ·rename_i S1 hc
    split at h
    ·rename_i BQ Aj
     cases h;obtain⟨hl,hn⟩:=xj hc;have fy:=hR.less hl;have akm:BQ=cs:=by
      have:=hl.aZ id BQ Aj;rw[eX]at this;exact(Option.some.inj this).symm
     subst akm;obtain⟨g',r1,r2,r3⟩:=fy.Lj (hn cn (by simp))
     refine⟨g',⟨r1.env,fun i ei hi=>?_,r1.bl,r1.aD,r1.defers,r1.kb,r1.same⟩⟩;rw[dL]at hi;split at hi
     ·rename_i e
      subst e;cases hi;rcases r1.aZ id BQ Aj with h0 | ⟨h1,h2,h3,c,e,h4,fY,h5⟩
      ·rw[h0.1]at jS;simp at jS
      refine .inr ⟨h1,h2,h3,c,e,h4,fY,fun j v hj=>?_⟩;rw[kK]at hj;split at hj
      ·rename_i ej
       subst ej;split at hj
       ·cases hj
        obtain⟨_,y,h7,h8⟩:=h5 off _ jS;refine⟨rfl,y,h7,?_⟩;exact r2 sz _ (.inl (pB h8))
       ·cases hj
      ·exact h5 j v hj
     ·exact r1.aZ i ei hi
    ·cases h
   ·cases h
  ·cases h;exact⟨g,hR⟩
 ·cases h;exact⟨g,hR⟩
theorem akn(hR:R E g S a w){id off cn sz:Nat}(h:iv.run S (.px id off cn sz)=some S'):∃g',R E g' S' a w:=Yg hR h
theorem ako{X:Cx}{cn:Nat}{v:V}{x:Value}(h:bf X v x):bf X (V.forget cn v) x:=by
 unfold V.forget;split
 ·rename_i f n es
  cases f==cn with
  |false=>exact h
  |true =>
   cases h with
   |plain h _ =>
    refine .plain ?_ (fun _ _ _ e=>by cases e)
    cases h with
    |nil=>exact .nil _ _
    |empty _ _ a cap=>exact .empty _ _ a cap
    |slice _ _ _ b off cap zs hb eK jc hc hv hp hm=>exact .slice _ _ _ b off cap zs hb eK jc hc hv hp hm
 ·exact h
theorem akp{cn:Nat}{v:V}(h:v.cQ=true):(V.forget cn v).cQ=true:=by
 unfold V.forget;split
 ·rename_i f n es;cases f==cn<;>rfl
 ·exact h
theorem akq(hR:R E g S a w){id back cn sz:Nat}(h:iv.run S (.K3 id back cn sz)=some S'):∃g',R E g' S' a w:=by
 simp only[iv.run]at h;split at h
 ·rename_i cs eX
  split at h
  ·refine Yg (g:=g) (S:={ S with aZ:=(id,cs.map (V.forget cn))::S.aZ.filter fun p => !(p.1==id) }) ⟨hR.env,fun i ei hi=>?_,hR.bl,hR.aD,hR.defers,hR.kb,hR.same⟩ h
   have hi:look i ((id,cs.map (V.forget cn))::S.aZ.filter fun p => !(p.1==id))=some ei:=hi;rw[dL]at hi;by_cases oe:id=i
   ·subst oe
    rw[aK rfl]at hi;cases hi;rcases hR.aZ id cs eX with h0 | ⟨h1,h2,h3,c,e,h4,fY,h5⟩
    ·exact .inl ⟨by rw[h0.1];rfl,h0.2⟩
    refine .inr ⟨h1,h2,h3,c,e,h4,fY,fun j v hj=>?_⟩;rw[vp]at hj;cases hu:cs[j]? with
    |none=>simp[hu]at hj
    |some u =>
     simp only[hu,nd,Option.some.injEq]at hj;subst hj;obtain⟨q1,y,q2,q3⟩:=h5 j u hu;exact⟨akp q1,y,q2,ako q3⟩
   ·rw[av oe,nN]at hi
    split at hi
    ·cases hi
    ·exact hR.aZ i ei hi
  ·cases h;exact⟨g,hR⟩
 ·cases h;exact⟨g,hR⟩
theorem Yh{α β:Type}{s:Nat}{f:α→β}:∀{l:List (Nat×α)},look s (l.map fun p=>(p.1,f p.2))=(look s l).map f
 |[]=>rfl
 |(k,v)::l=>by
  simp only[oH,dL];split
  ·rfl
  ·exact Yh
theorem akr(hR:R E g S a w){i b:Nat}(h:iv.run S (.jR i b)=some S'):∃g',R E g' S' a w:=by
 simp only[iv.run]at h;split at h
 ·rename_i S1 hc
  obtain⟨hl,hn⟩:=xj hc;have fy:=hR.less hl;have hn:=hn b (by simp)
  split at h
  ·rename_i cs eX
   cases h;obtain⟨g',r1,r2,r3,_⟩:=fy.Ij hn eX;refine⟨g',⟨fun s v hs=>?_,r1.aZ,r1.bl,r1.aD,r1.defers,r1.kb,r1.same⟩⟩;have hs:look s (S1.env.map fun p=>(p.1,V.jR i b p.2))=some v:=hs;rw[Yh]at hs;cases hu:look s S1.env with
   |none=>simp[hu]at hs
   |some u =>
    simp only[hu,nd,Option.some.injEq]at hs;subst hs;obtain⟨x,hx,hr⟩:=fy.env s u hu;refine⟨x,hx,?_⟩;unfold V.jR;split
    ·rename_i k sz n
     cases hk:k==i with
     |true =>
      have:=eq_of_beq hk;subst this;exact r2 _ _ _ hr
     |false=>exact r3 _ _ hr (hn.env s _ hu)
    ·exact r3 _ _ hr (hn.env s _ hu)
  ·cases h;exact⟨g,fy⟩
 ·cases h
theorem R.frozen(hR:R E g S a w){id off n:Nat}{sh:Sh}{es:List (List V)}{x:Value}(hr:bf (S.cx g w) (.bR id off n) x)(kP:S.sM sh (.bR id off n)=some es) :
  ∃g',R E g' { S with aZ:=S.aZ.filter fun p => !(p.1==id) } a w∧bf (S.cx g' w) (.slice none sh.length es) x∧∀v x,bf (S.cx g w) v x→bf (S.cx g' w) v x:=by
 obtain⟨nj,n',he,hlen,uN⟩:=HL hR hr kP;cases he;rcases uN with⟨h0,hz⟩ | ⟨cap,eK,hx,c,e,hh,fZ,zS,cB,gN,hm⟩
 ·subst h0
  obtain rfl:=a8.1 hlen;have vW:oW ({ S with aZ:=S.aZ.filter fun p => !(p.1==id) }:St) S:=by
   refine⟨fun _ _ e=>e,fun k v e=>?_,fun _ _ e=>e,rfl⟩;simp only[nN]at e;split at e
   ·cases e
   ·exact e
  refine⟨g,hR.less vW,.plain (by rcases hz with rfl | ⟨q,rfl⟩<;>first|exact .nil _ _|exact .empty _ _ q 0) (fun _ _ _ e=>by cases e),fun v x hx=>hx.mono ⟨bY _,fun _ _ _ _ h=>h,fun _ _=>bY _,bY _,fun _ _=>rfl⟩ fun i=>.inl (jB.refl _ i)⟩
 let g':Gh:={ g with m:=df g.m (g.κ id) c.size,ow:=df g.ow (g.κ id) .none }
 have t:Touch E g S w g' S.bl S.aD.length w (g.κ id) none none :=
  {os:=rfl,tape:=rfl,output:=rfl,size:=bY _,heap:=fun _ _ _=>rfl,m:=fun b hb=>gC _ _ hb,ow:=fun b hb=>gC _ _ hb,κ:=fun _ _=>rfl,cp:=fun _ _=>rfl,τ:=fun _ _=>rfl,T:=fun _ _=>rfl,
   γ:=fun _ _=>rfl,eW:=bY _,γnew:=fun i a b=>absurd a (by omega),fresh:=.inl gN,iW:=fun p q _ e=>by(have e:df g.ow (g.κ id) .none (g.κ id)=.cell p q:=e);rw[dS]at e;exact nomatch e
   lv:=fun i e=>by(have e:df g.ow (g.κ id) .none (g.κ id)=.aD i:=e);rw[dS]at e;exact nomatch e
   kN:=fun _ _ _ h=>h,qH:=fun _=>by rw[hm];exact xZ _ }
 have hk:∀i,jB (S.cx g w) ⟨w.heap,g',S.aD.length,S.bl⟩ i:=fun i=>t.keeps hR (fun e=>by cases e) (fun e=>by cases e) (fun _ e=>by rw[cB]at e;cases e)
 have bI:g.κ id<w.heap.size:=by
  rcases cM (g.κ id) w.heap.size with h|h
  ·exact h
  ·simp[nb h]at hh
 refine⟨g',R.oQ t hR rfl rfl (fun i=>.inl (hk i)) (fun k v r0=>.inl r0) (fun i ei hi=>?_) (fun f k b hf hb=>.inl ⟨(fun e=>by cases e),fun _ e=>by rw[cB]at e;cases e⟩)
  (fun i o hi=>.inl ⟨hi,fun _=>⟨fun e=>(by rw[cB]at e;cases e),fun _ e=>(by rw[cB]at e;cases e)⟩⟩),?_,fun v x hx=>hx.mono t.le fun i=>.inl (hk i)⟩
 ·have hi:look i (S.aZ.filter fun p => !(p.1==id))=some ei:=hi
  rw[nN]at hi;split at hi
  ·cases hi
  ·rename_i cq
   exact .inl ⟨hi,(fun e=>by cases e),fun _ e=>cq (by rw[cB]at e;cases e;rfl)⟩
 ·subst hx
  rw[←hlen];refine .plain (C9 (m:=g'.m) (zS.mono t.le) bI (by omega) (fun j y hj=>?_) ?_ _) (fun _ _ _ e=>by cases e)
  ·show cellAt w.heap (g.κ id) _=_
   rw[lP hh];rw[lN]at hj;split at hj
   ·simpa using hj
   ·cases hj
  ·show _≤df g.m (g.κ id) c.size (g.κ id)
   rw[dS,hlen,kz];exact fZ
theorem aks(hR:R E g S a w){s:Nat}{sh:Sh}(h:iv.run S (.freeze s sh)=some S'):∃g',R E g' S' a w:=by
 simp only[iv.run]at h;split at h
 ·rename_i id off n hs
  split at h
  ·rename_i es kP
   cases h;obtain⟨x,hx,hr⟩:=hR.env s _ hs;obtain⟨g',r1,r2,_⟩:=hR.frozen hr kP;refine⟨g',⟨fun k v hk=>?_,r1.aZ,r1.bl,r1.aD,r1.defers,r1.kb,r1.same⟩⟩;rw[dL]at hk;split at hk
   ·rename_i e
    subst e;cases hk;exact⟨x,hx,r2⟩
   ·exact r1.env k v hk
  ·cases h
 ·cases h;exact⟨g,hR⟩
theorem akt(hR:R E g S a w){id off:Nat}{sh:Sh}(h:iv.run S (.K4 id off sh)=some S'):∃g',R E g' S' a w:=by
 simp only[iv.run]at h;split at h
 ·rename_i cs eX
  split at h
  ·rename_i i s n jS
   split at h
   ·rename_i es kP
    cases ke:i==id with
    |true=>simp[ke]at h
    |false =>
     simp only[ke,fu]at h;cases h;have cq:id≠i:=fun e=>by subst e;simp at ke
     obtain⟨_,_,_,c,e,hh,_,hj⟩:=(hR.aZ id cs eX).resolve_left (fun h0=>by rw[h0.1]at jS;simp at jS)
     obtain⟨_,y,hy,hr⟩:=hj off _ jS;obtain⟨g',r1,r2,r3⟩:=hR.frozen hr kP;have Aj:look id (S.aZ.filter fun p => !(p.1==i))=some cs:=by rw[nN,av cq];exact eX
     refine⟨g',⟨r1.env,fun k ei hk=>?_,r1.bl,r1.aD,r1.defers,r1.kb,r1.same⟩⟩;have hk:look k ((id,cs.set off (.slice none sh.length es))::(S.aZ.filter fun p => !(p.1==i)).filter fun p => !(p.1==id))=some ei:=hk;rw[dL]at hk;by_cases kE:id=k
     ·subst kE
      rw[aK rfl]at hk;cases hk;obtain⟨h1,h2,h3,c',e',h4,fY,h5⟩:=(r1.aZ id cs Aj).resolve_left (fun h0=>by rw[h0.1]at jS;simp at jS)
      refine .inr ?_;have qJ:g'.κ id=g.κ id:=by
       have:bf (S.cx g w) (.bj id 0) (.pointer (some ⟨g.κ id,0,none⟩)):=.bj id 0;have h6:=Bu (r3 _ _ this);simp only[Value.pointer.injEq,Option.some.injEq,Addr.mk.injEq]at h6;exact h6.1.symm
      have xk:c'=c:=by
       rw[qJ,hh]at h4;cases h4;rfl
      subst xk;refine⟨h1,h2,h3,c',e',h4,fY,fun j v r7=>?_⟩;rw[kK]at r7;split at r7
      ·rename_i ej
       subst ej;split at r7
       ·cases r7
        exact⟨rfl,y,hy,r2⟩
       ·cases r7
      ·exact h5 j v r7
     ·rw[av kE,nN]at hk
      split at hk
      ·cases hk
      ·exact r1.aZ k ei hk
   ·cases h
  ·cases h;exact⟨g,hR⟩
 ·cases h;exact⟨g,hR⟩
theorem Yi(hR:R E g S a w){s id sz:Nat}{v:V}(hs:look s S.env=some v)(hz:∀x,bf (S.cx g w) v x→mr x)(h:S.tB s id sz=some S'):∃g',R E g' S' a w:=by
 unfold St.tB at h;split at h
 ·rename_i S1 hc
  cases h;obtain⟨hl,hn⟩:=xj hc;obtain⟨x,hx,hr⟩:=hR.env s _ hs;obtain⟨g',r1,_,r2,_⟩:=(hR.less (hl.trans QR)).LR (hn id (by simp)) 0
  refine⟨g',⟨fun k v hk=>?_,r1.aZ,r1.bl,r1.aD,r1.defers,r1.kb,r1.same⟩⟩;replace hk:look k ((s,.bR id sz 0)::S1.env)=some v:=hk;rw[dL]at hk;split at hk
  ·rename_i e;subst e;cases hk;exact⟨x,hx,.rP _ _ (hz x hr) r2⟩
  ·exact r1.env k v hk
 ·cases h
theorem aku(hR:R E g S a w){s id sz:Nat}(h:iv.run S (.tB s id sz)=some S'):∃g',R E g' S' a w:=by
 simp only[iv.run]at h;split at h
 ·rename_i hs;exact Yi hR hs (fun x hx=>.inl (pB hx)) h
 ·rename_i hs;exact Yi hR hs (fun x hx=>uH hx) h
 ·cases h;exact⟨g,hR⟩
theorem akv(hR:R E g S a w){s:Nat}{sh:Sh}(h:iv.run S (.share s sh)=some S'):∃g',R E g' S' a w:=by
 simp only[iv.run]at h;split at h
 ·rename_i id n len hs
  split at h
  ·rename_i es S1 kP hc
   cases h;obtain⟨hl,hn⟩:=xj hc;have hn:=hn id (by simp)
   have hl:=hl.trans QR;obtain⟨x,hx,hr⟩:=hR.env s _ hs;obtain⟨nj,n',he,hlen,uN⟩:=HL hR hr kP;cases he;have fy:=hR.less hl;rcases uN with⟨h0,hz⟩ | ⟨cap,eK,LS,c,e,hh,fZ,zS,cB,gN,hm⟩
   ·subst h0
    obtain rfl:=a8.1 hlen;have Fw:R E g { S1 with env:=(s,.ea 0)::S1.env } a w:=⟨fun k v hk=>by
     replace hk:look k ((s,.ea 0)::S1.env)=some v:=hk;rw[dL]at hk;split at hk
     ·rename_i e;subst e;cases hk;exact⟨x,hx,.ea hz⟩
     ·exact fy.env k v hk,fy.aZ,fy.bl,fy.aD,fy.defers,fy.kb,fy.same⟩
    obtain⟨g',r⟩:=LU (n:=sh.length) Fw (s:=s) (v:=.ea 0) (by show look s ((s,.ea 0)::S1.env)=_;rw[dL,aK rfl]) (fun x hx=>uH hx)
    refine⟨g',⟨fun k v hk=>?_,r.aZ,r.bl,r.aD,r.defers,r.kb,r.same⟩⟩;refine r.env k v ?_;replace hk:look k ((s,.c6 S1.aD.length sh.length 0)::S1.env)=some v:=hk;show look k ((s,.c6 S1.aD.length sh.length 0)::(s,.ea 0)::S1.env)=some v;rw[dL]at hk ⊢;split at hk
    ·rename_i e;rw[aK e];exact hk
    ·rename_i e;rw[av e,dL,av e];exact hk
   ·obtain⟨f1,f2⟩:=Ae zS
    obtain⟨g',r1,r2,_⟩:=fy.QS (id:=id) (n:=sh.length) hn cB gN hm hh LS eK (us:=es.flatten) (fun j v hv=>by
     obtain⟨q1,y,q2,q3⟩:=f2 j v hv;rw[lN]at q2;split at q2
     ·exact⟨q1,y,by simpa using q2,q3⟩
     ·cases q2)
    refine⟨g',⟨fun k u hk=>?_,r1.aZ,r1.bl,r1.aD,r1.defers,r1.kb,r1.same⟩⟩;replace hk:look k ((s,.c6 S1.aD.length sh.length es.length)::S1.env)=some u:=hk;rw[dL]at hk;split at hk
    ·rename_i e;subst e;cases hk;rw[hlen];exact⟨x,hx,r2⟩
    ·exact r1.env k u hk
  ·cases h
 ·rename_i hs;cases h;exact LU hR hs (fun x hx=>.inl (pB hx))
 ·rename_i hs;cases h;exact LU hR hs (fun x hx=>uH hx)
 ·cases h
theorem R.QT(hR:R E g S a w){id off:Nat}{cs:List V}{v0 v1:V}(eX:look id S.aZ=some cs)(jS:cs[off]?=some v0)(hc:v1.cQ=true)(hx:∀y,bf (S.cx g w) v0 y→bf (S.cx g w) v1 y) :
  R E g { S with aZ:=(id,cs.set off v1)::S.aZ } a w :=
 ⟨hR.env,fun k ei hk=>by
  replace hk:look k ((id,cs.set off v1)::S.aZ)=some ei:=hk;rw[dL]at hk;split at hk
  ·rename_i e
   subst e;cases hk;obtain⟨h1,h2,h3,c,e,h4,h5,h6⟩:=(hR.aZ id cs eX).resolve_left (fun h=>by rw[h.1]at jS;simp at jS)
   refine .inr ⟨h1,h2,h3,c,e,h4,h5,fun j v hj=>?_⟩;rw[kK]at hj;split at hj
   ·rename_i ej
    subst ej;split at hj
    ·cases hj
     obtain⟨_,y,h7,h8⟩:=h6 off _ jS;exact⟨hc,y,h7,hx y h8⟩
    ·cases hj
   ·exact h6 j v hj
  ·exact hR.aZ k ei hk,hR.bl,hR.aD,hR.defers,hR.kb,hR.same⟩
theorem Yj{S S1:St}(hl:oW S1 S){id:Nat}{cs BQ:List V}(h:look id S.aZ=some cs)(h1:look id S1.aZ=some BQ):BQ=cs:=by
 have:=hl.aZ id BQ h1;rw[h]at this;exact(Option.some.inj this).symm
theorem akw(hR:R E g S a w){id off i sz:Nat}(h:iv.run S (.wS id off i sz)=some S'):∃g',R E g' S' a w:=by
 simp only[iv.run,St.wS]at h;split at h
 ·rename_i cs eX
  split at h
  ·rename_i jS
   split at h
   ·rename_i S1 hc
    split at h
    ·rename_i BQ Aj
     cases h;obtain⟨hl,hn⟩:=xj hc;obtain rfl:=Yj hl eX Aj;have hn:=hn i (by simp)
     obtain⟨g',r1,_,r2,_⟩:=(hR.less hl).LR hn 0;have cq:i≠id:=fun e=>by subst e;rw[hn.obj]at Aj;cases Aj
     exact⟨g',r1.QT (v0:=.bU) (by show look id ((i,[])::S1.aZ)=_;rw[dL,av cq];exact Aj) jS rfl fun y hy=>.rP _ _ (.inl (pB hy)) r2⟩
    ·cases h
   ·cases h
  ·cases h;exact⟨g,hR⟩
 ·cases h;exact⟨g,hR⟩
theorem akx(hR:R E g S a w){i b id off:Nat}(h:iv.run S (.Bj i b id off)=some S'):∃g',R E g' S' a w:=by
 simp only[iv.run,St.Bj]at h;split at h
 ·rename_i ds qn
  split at h
  ·rename_i k s n jS
   cases Fx:(k==i && !(id==i)) with
   |false=>simp only[Fx,fu]at h;cases h;exact⟨g,hR⟩
   |true =>
    simp only[Fx,bM]at h;simp only[b8,eg,vm,Bi]at Fx;obtain⟨rfl,cq⟩:=Fx;split at h
    ·rename_i S1 hc
     split at h
     ·rename_i cs QU eX LV
      cases h;obtain⟨hl,hn⟩:=xj hc;obtain rfl:=Yj hl qn LV;have hn:=hn b (by simp)
      obtain⟨g',r1,_,_,r4⟩:=(hR.less hl).Ij hn eX;have Yk:b≠id:=fun e=>by subst e;rw[hn.obj]at LV;cases LV
      refine⟨g',(r1.QT (v0:=.bR k s n) (by show look id ((b,cs)::S1.aZ.filter fun p => !(p.1==k))=_;rw[dL,av Yk,nN,av cq];exact LV) jS rfl fun y hy=>r4 _ _ _ hy).less ⟨fun _ _ e=>e,fun m v e=>?_,fun _ _ e=>e,rfl⟩⟩
      simp only at e ⊢;rw[dL]at e ⊢;split
      ·rename_i e1;rw[aK e1]at e;exact e
      ·rename_i e1
       rw[av e1,dL]at e;rw[dL];split
       ·rename_i e2;rw[aK e2]at e;exact e
       ·rename_i e2
        rw[av e2,nN,nN]at e;rw[nN];split at e
        ·cases e
        ·rename_i e3
         rw[av e3];split at e
         ·cases e
         ·exact e
     ·cases h
    ·cases h
  ·cases h;exact⟨g,hR⟩
 ·cases h;exact⟨g,hR⟩
theorem aky(hR:R E g S a w){id off:Nat}{sh:Sh}(h:iv.run S (.Bk id off sh)=some S'):∃g',R E g' S' a w:=by
 simp only[iv.run,St.Bk]at h;split at h
 ·rename_i ds qn
  split at h
  ·rename_i i s n jS
   cases yr:(n==0) with
   |true =>
    simp only[yr,bM]at h;cases h;have:=eq_of_beq yr;subst this;refine⟨g,hR.QT qn jS rfl fun y hy=>.plain ?_ (fun _ _ _ e=>by cases e)⟩
    rcases rT hy with⟨cap,_,_,rfl⟩ | ⟨_,rfl | ⟨q,rfl⟩,_⟩
    ·exact .empty _ _ _ _
    ·exact .nil _ _
    ·exact .empty _ _ _ _
   |false =>
    simp only[yr,fu]at h;split at h
    ·rename_i es S1 kP hc
     cases ke:i==id with
     |true=>simp only[ke,bM]at h;cases h
     |false =>
      simp only[ke,fu]at h;cases h;have cq:i≠id:=fun e=>by subst e;simp at ke
      obtain⟨hl,hn⟩:=xj hc;have hn:=hn i (by simp)
      have vW:oW ({ S with aZ:=S.aZ.filter fun p => !(p.1==id) }:St) S:=by
       refine⟨fun _ _ e=>e,fun k v e=>?_,fun _ _ e=>e,rfl⟩;simp only[nN]at e;split at e
       ·cases e
       ·exact e
      have fy:=hR.less (hl.trans vW);obtain⟨o1,o2,o3,c,e,o4,o5,o6⟩:=(hR.aZ id ds qn).resolve_left (fun h=>by rw[h.1]at jS;simp at jS)
      obtain⟨_,y,q1,q2⟩:=o6 off _ jS;obtain⟨nj,n',he,hlen,uN⟩:=HL hR q2 kP;cases he;obtain⟨cap,eK,LS,c',e',hh,fZ,zS,cB,gN,hm⟩:=uN.resolve_left (fun h=>by rw[h.1]at yr;simp at yr)
      obtain⟨f1,f2⟩:=Ae zS;obtain⟨g',r1,r2,m1,m2,m3,m4,m5⟩:=fy.QS (id:=i) (n:=sh.length) hn cB gN hm hh LS eK (us:=es.flatten) (fun j v hv=>by
       obtain⟨q1,y,q2,q3⟩:=f2 j v hv;rw[lN]at q2;split at q2
       ·exact⟨q1,y,by simpa using q2,q3⟩
       ·cases q2)
      refine⟨g',⟨r1.env,fun k ei hk=>?_,r1.bl,r1.aD,r1.defers,r1.kb,r1.same⟩⟩;replace hk:look k ((id,ds.set off (.c6 S1.aD.length sh.length n))::S1.aZ)=some ei:=hk;rw[dL]at hk;split at hk
      ·rename_i ee
       subst ee;cases hk;have qJ:g.κ id≠g.κ i:=fun h=>by
        rw[h,cB]at o1;injection o1 with o1;exact cq o1
       refine .inr ⟨by rw[m2,m4 _ qJ];exact o1,by rw[m2];exact o2,by rw[m1,m2];exact o3,c,e,by rw[m2];exact o4,by rw[m3];exact o5,fun j v hj=>?_⟩
       rw[kK]at hj;split at hj
       ·rename_i ej
        subst ej;split at hj
        ·cases hj
         exact⟨rfl,y,q1,r2⟩
        ·cases hj
       ·obtain⟨z1,z,z2,z3⟩:=o6 j v hj
        exact⟨z1,z,z2,m5 _ _ ((hl.trans vW).rel z3)⟩
      ·exact r1.aZ k ei hk
    ·cases h
  ·cases h;exact⟨g,hR⟩
 ·cases h;exact⟨g,hR⟩
theorem R.dead(hR:R E g S a w)(i:Nat):R E g { S with aD:=S.aD.set i (.cells []) } a w:=by
 have hl:(S.aD.set i (aP.cells [])).length=S.aD.length:=by simp
 have ni:(({ S with aD:=S.aD.set i (.cells []) }:St).cx g w)=S.cx g w:=by simp[St.cx]
 refine⟨by rw[ni];exact hR.env,by rw[ni];exact hR.aZ,hR.bl,⟨fun k o hk=>?_,fun k o hk=>?_,fun b k ho=>by rw[hl];exact hR.aD.z b k ho⟩,hR.defers,hR.kb,by rw[hl];exact hR.same⟩
 ·rw[hl]
  simp only[kK]at hk;split at hk
  ·split at hk
   ·cases hk;exact .inl rfl
   ·cases hk
  ·exact hR.aD.obj k o hk
 ·simp only[kK]at hk
  split at hk
  ·split at hk
   ·cases hk;exact fun j n es y hj=>by simp at hj
   ·cases hk
  ·exact hR.aD.own k o hk
theorem Yl(hR:R E g S a w){j9 akA:List Sh}{v u:V}{G:List aP}{x:Value}(hr:bf (S.cx g w) v x)(h:St.ES S.aD j9 v=some (u,akA,G)) :
  ∃g',R E g' { S with aD:=G } a w∧bf (({ S with aD:=G }:St).cx g' w) u x∧∀v x,bf (S.cx g w) v x→bf (({ S with aD:=G }:St).cx g' w) v x:=by
 unfold St.ES at h;split at h
 ·rename_i i n len
  split at h
  ·rename_i sh akB cs fM
   cases hc:(n==sh.length&&Nat.blt 0 n&&Nat.ble (len*n) cs.length) with
   |false=>simp[hc]at h
   |true =>
    simp only[hc,bM]at h;simp only[b8,eg]at hc;obtain⟨⟨rfl,gX⟩,hle⟩:=hc;have gX:0<sh.length:=by simpa [CU] using gX
    have hle:=jk hle;split at h
    ·rename_i es mU
     cases h;have hlen:es.length=len:=by
      obtain⟨h1,_⟩:=PK mU;rw[PL]at h1;exact h1
     have ni:(({ S with aD:=S.aD.set i (.cells []) }:St).cx g w)=S.cx g w:=by simp[St.cx]
     have hz:len=0→∃g',R E g' { S with aD:=S.aD.set i (.cells []) } a w∧bf (({ S with aD:=S.aD.set i (.cells []) }:St).cx g' w) (.slice none sh.length es) x∧∀v x,bf (S.cx g w) v x→bf (({ S with aD:=S.aD.set i (.cells []) }:St).cx g' w) v x:=fun h0=>by
      subst h0;obtain rfl:=a8.1 hlen;refine⟨g,hR.dead i,.plain ?_ (fun _ _ _ e=>by cases e),fun v x hx=>by rw[ni];exact hx⟩
      obtain⟨_,⟨cap,_,e⟩ | ⟨_,e | ⟨q,e⟩⟩⟩:=EW hr
      ·rw[e];exact .empty _ _ _ _
      ·rw[e];exact .nil _ _
      ·rw[e];exact .empty _ _ _ _
     rcases nG len with h0|h0
     ·exact hz h0
     obtain⟨hi,hx⟩:=EW hr;obtain⟨cap,eK,e1⟩:=hx.resolve_right (fun h=>by have:=h.1;omega)
     have cq:cs≠[]:=fun e=>by
      subst e;simp only[uy,Nat.le_zero,KY]at hle;omega
     obtain⟨cB,hm,c,e,hh,dJ,hj⟩:=(hR.aD.obj i _ fM).resolve_left (fun e=>cq (by cases e;rfl))
     have oa:Le ⟨w.heap,g,S.aD.length,[]⟩ (S.cx g w):=⟨bY _,fun _ _ _ _ h=>h,fun _ _=>bY _,bY _,fun _ _=>rfl⟩;obtain⟨h1,h2⟩:=PM (X:=S.cx g w) (c:=c) (cs:=cs.map V.jm) (off:=0) (fun j v hv=>by
      rw[vp]at hv;cases LW:cs[j]? with
      |none=>simp[LW]at hv
      |some v0 =>
       simp[LW]at hv;subst hv;have bI:j<c.size:=ja (fa LW) dJ;obtain⟨_,q2,q3⟩:=hj j v0 c[j] LW (by simp[bI])
       exact⟨c[j],by simp[bI],PI (q3.mono oa (fun d=>.inr (q2 d)))⟩) (by simp;exact hle) mU
     simp only[vn]at h2
     let g':Gh:={ g with m:=df g.m (g.γ i) (len*sh.length),ow:=df g.ow (g.γ i) .none }
     have t:Touch E g S w g' S.bl S.aD.length w (g.γ i) none none :=
      {os:=rfl,tape:=rfl,output:=rfl,size:=bY _,heap:=fun _ _ _=>rfl,m:=fun b hb=>gC _ _ hb,ow:=fun b hb=>gC _ _ hb,κ:=fun _ _=>rfl,cp:=fun _ _=>rfl,
       τ:=fun _ _=>rfl,T:=fun _ _=>rfl,γ:=fun _ _=>rfl,eW:=bY _,γnew:=fun i a b=>absurd a (by omega)
       fresh:=(hR.HX cB).imp (fun z=>z) .inl,iW:=fun p q hb e=>by(have e:df g.ow (g.γ i) .none (g.γ i)=.cell p q:=e);rw[dS]at e;cases e
       lv:=fun k e=>by(have e:df g.ow (g.γ i) .none (g.γ i)=.aD k:=e);rw[dS]at e;cases e
       kN:=fun _ _ _ hy=>hy,qH:=fun _=>by rw[hm];exact xZ _ }
     have Am:∀k,jB (S.cx g w) ⟨w.heap,g',S.aD.length,S.bl⟩ k:=fun k=>t.keeps hR (fun e=>by cases e) (fun e=>by cases e) (fun _ e=>by rw[cB]at e;cases e)
     have Ym:(({ S with aD:=S.aD.set i (.cells []) }:St).cx g' w)=⟨w.heap,g',S.aD.length,S.bl⟩:=by simp[St.cx]
     refine⟨g',R.HC t hR rfl (by simp) (fun k=>.inl (Am k)) (fun s v hs=>.inl hs) (fun k ei ho=>.inl ⟨ho,(fun e=>by cases e),fun _ e=>by rw[cB]at e;cases e⟩)
      (fun f k b hf hb=>.inl ⟨(fun e=>by cases e),fun _ e=>by rw[cB]at e;cases e⟩) (fun k o hk h0=>?_),?_,fun v x hx=>by rw[Ym];exact hx.mono t.le fun k=>.inl (Am k)⟩
     ·simp only[kK]at hk
      split at hk
      ·split at hk
       ·cases hk;exact absurd rfl h0
       ·cases hk
      ·rename_i cq
       exact .inl ⟨hk,fun _=>⟨fun e=>cq (by rw[cB]at e;cases e;rfl),fun _ e=>by rw[cB]at e;cases e⟩⟩
     ·rw[Ym,e1,← hlen]
      refine .plain (C9 (m:=g'.m) (h2.mono t.le) (ja (E6 hR fM (fun e=>cq (by cases e;rfl))) (bY _)) (by omega) (fun j y sW=>?_) ?_ _) (fun _ _ _ e=>by cases e)
      ·show cellAt w.heap (g.γ i) _=_
       rw[lP hh];rw[lN]at sW;split at sW
       ·simpa using sW
       ·cases sW
      ·show _≤df g.m (g.γ i) (len*sh.length) (g.γ i)
       rw[dS,hlen,kz];exact bY _
    ·cases h
  ·cases h
 ·cases h;exact⟨g,hR,hr,fun v x hx=>hx⟩
theorem QV:∀{S:St} {g:Gh} (hR:R E g S a w) {j9:List Sh} {vs us:List V} {G:List aP},wT S.aD j9 vs=some (us,G)→∀{xs:List Value},PW (S.cx g w) vs xs →
  ∃g',R E g' { S with aD:=G } a w∧PW (({ S with aD:=G }:St).cx g' w) us xs∧∀v x,bf (S.cx g w) v x→bf (({ S with aD:=G }:St).cx g' w) v x
 |S,g,hR,j9,[],us,G,h,xs,hp=>by
  simp only[wT,Option.some.injEq,Prod.mk.injEq]at h;obtain⟨rfl,rfl⟩:=h;exact⟨g,hR,hp,fun v x hx=>hx⟩
 |S,g,hR,j9,v::vs,us,G,h,xs,hp=>by
  simp only[wT]at h;split at h
  ·rename_i u Yn G1 h1
   split at h
   ·rename_i us1 G2 h2
    cases h
    match xs,hp.len with
    |x::xs,hl =>
     obtain⟨g1,r1,q1,k1⟩:=Yl hR (hp.at_ 0 v x rfl rfl) h1;obtain⟨g2,r2,q2,k2⟩:=QV (S:={ S with aD:=G1 }) r1 h2 (xs:=xs) ⟨by simpa using hl,fun j v y hv hy=>k1 v y (hp.at_ (j+1) v y (by simpa using hv) (by simpa using hy))⟩
     refine⟨g2,r2,⟨by simp[q2.len],fun j v y hv hy=>?_⟩,fun v x hx=>k2 v x (k1 v x hx)⟩
     cases j with
     |zero=>simp at hv hy;subst hv;subst hy;exact k2 _ _ q1
     |succ j=>exact q2.at_ j v y (by simpa using hv) (by simpa using hy)
   ·cases h
  ·cases h
theorem akD(hR:R E g S a w){s:Nat}{j9:List Sh}(h:iv.run S (.K5 s j9)=some S'):∃g',R E g' S' a w:=by
 simp only[iv.run]at h;split at h
 ·rename_i cs hs
  split at h
  ·rename_i us G ht
   cases h;obtain⟨x,hx,hr⟩:=hR.env s _ hs;obtain⟨xs,rfl,hl,Ik⟩:=rU hr;obtain⟨g',r,q,_⟩:=QV hR ht (xs:=xs.toList) ⟨by simpa using hl,fun i v y hv hy=>Ik i v y hv (by simpa using hy)⟩
   refine⟨g',⟨fun k v hk=>?_,r.aZ,r.bl,r.aD,r.defers,r.kb,r.same⟩⟩;replace hk:look k ((s,.agg us)::S.env)=some v:=hk;rw[dL]at hk;split at hk
   ·rename_i e;subst e;cases hk
    exact⟨_,hx,.agg _ _ (by simpa using q.len) (fun i v y hv hy=>q.at_ i v y hv (by simpa using hy))⟩
   ·exact r.env k v hk
  ·cases h
 ·rename_i v _ hs
  split at h
  ·rename_i u Yn G ht
   cases h;obtain⟨x,hx,hr⟩:=hR.env s _ hs;obtain⟨g',r,q,_⟩:=Yl hR hr ht;refine⟨g',⟨fun k v hk=>?_,r.aZ,r.bl,r.aD,r.defers,r.kb,r.same⟩⟩;replace hk:look k ((s,u)::S.env)=some v:=hk;rw[dL]at hk;split at hk
   ·rename_i e;subst e;cases hk;exact⟨x,hx,q⟩
   ·exact r.env k v hk
  ·cases h
 ·cases h
theorem Yo:∀{G G':List aP} {j9:List Sh} {vs us:List V},wT G j9 vs=some (us,G')→(∀v∈vs,v.cQ=true)→∀u∈us,u.cQ=true
 |G,G',j9,[],us,h,_=>by simp only[wT,Option.some.injEq,Prod.mk.injEq]at h;obtain⟨rfl,rfl⟩:=h;simp
 |G,G',j9,v::vs,us,h,hv=>by
  simp only[wT]at h;split at h
  ·rename_i u Yn G1 h1
   split at h
   ·rename_i us1 G2 h2
    cases h;intro z hz;rcases jQ.1 hz with rfl|hz
    ·unfold St.ES at h1
     split at h1
     ·rename_i i n len
      split at h1
      ·rename_i sh akB cs _
       cases hc:(n==sh.length&&Nat.blt 0 n&&Nat.ble (len*n) cs.length) with
       |false=>rw[hc]at h1;cases h1
       |true =>
        rw[hc]at h1;simp only[bM]at h1;split at h1
        ·cases h1;rfl
        ·cases h1
      ·cases h1
     ·cases h1;exact hv _ xV
    ·exact Yo h2 (fun v h=>hv v (CR _ h)) z hz
   ·cases h
  ·cases h
theorem akE(hR:R E g S a w){id:Nat}{j9:List Sh}(h:iv.run S (.CW id j9)=some S'):∃g',R E g' S' a w:=by
 simp only[iv.run]at h;split at h
 ·rename_i cs eX
  split at h
  ·rename_i us G ht
   cases h;rcases hR.aZ id cs eX with⟨rfl,w5⟩ | ⟨cB,gN,hm,c,e,hh,fY,hj⟩
   ·simp only[wT,Option.some.injEq,Prod.mk.injEq]at ht
    obtain⟨rfl,rfl⟩:=ht;refine⟨g,⟨hR.env,fun i ei hi=>?_,hR.bl,hR.aD,hR.defers,hR.kb,hR.same⟩⟩;replace hi:look i ((id,[])::S.aZ.filter fun p => !(p.1==id))=some ei:=hi;rw[dL]at hi;by_cases ke:id=i
    ·subst ke
     rw[aK rfl]at hi;cases hi;exact hR.aZ id [] eX
    ·rw[av ke,nN]at hi
     split at hi
     ·cases hi
     ·exact hR.aZ i ei hi
   ·have hle:=LX hj
    have Lp:(c.toList.take cs.length).length=cs.length:=by simp;omega
    obtain⟨g',r,q,k⟩:=QV hR ht (xs:=c.toList.take cs.length) ⟨Lp.symm,fun i v y hv hy=>by
     obtain⟨_,y',h1,h2⟩:=hj i v hv;rw[lN]at hy;split at hy
     ·have hy:c[i]?=some y:=by simpa using hy
      rw[hy]at h1;cases h1;exact h2
     ·cases hy⟩
    have jT:=Yo ht fun v hv=>by
     obtain⟨j,r7⟩:=sH.1 hv;exact(hj j v r7).1
    have qJ:g'.κ id=g.κ id:=by
     have:bf (S.cx g w) (.bj id 0) (.pointer (some ⟨g.κ id,0,none⟩)):=.bj id 0;have h6:=Bu (k _ _ this);simp only[Value.pointer.injEq,Option.some.injEq,Addr.mk.injEq]at h6;exact h6.1.symm
    refine⟨g',⟨r.env,fun i ei hi=>?_,r.bl,r.aD,r.defers,r.kb,r.same⟩⟩;replace hi:look i ((id,us)::S.aZ.filter fun p => !(p.1==id))=some ei:=hi;rw[dL]at hi;by_cases ke:id=i
    ·subst ke
     rw[aK rfl]at hi;cases hi;rcases r.aZ id cs eX with⟨h0,w5⟩ | ⟨h1,h2,h3,c',e',h4,h5,_⟩
     ·subst h0
      have:us=[]:=a8.1 (by have:=q.len;simpa using this)
      exact .inl ⟨this,w5⟩
     ·rw[qJ,hh]at h4
      cases h4;refine .inr ⟨h1,h2,h3,c,e,by rw[qJ];exact hh,h5,fun j v hv=>?_⟩
      have rW:j<(c.toList.take cs.length).length:=by rw[←q.len];exact fa hv
      have sW:=g8 rW;refine⟨jT v (g9 hv),_,?_,q.at_ j v _ hv sW⟩;rw[lN]at sW;split at sW
      ·simpa using sW
      ·cases sW
    ·rw[av ke,nN]at hi
     split at hi
     ·cases hi
     ·exact r.aZ i ei hi
  ·cases h
 ·cases h;exact⟨g,hR⟩
end
end Go.Vm

/- The value machine, 15: what lies between the regions. -/
import Derived.Test.YtocclbnghhaejaaGreatVmE
namespace Go.Vm
set_option linter.all false
theorem EU{α:Type}{s:Nat}{v:α}{env:List (Nat×α)}:∀{l:List Nat},look s (tD env l)=some v→look s env=some v
 |[],h=>by simp[tD,look]at h
 |k::l,h=>by
  simp only[tD]at h;split at h
  ·rename_i u hu
   rw[dA]at h;split at h
   ·rename_i e;subst e;cases h;exact hu
   ·exact EU h
  ·exact EU h
section
variable {P:Program} {E:Entry} {g g':Gh} {S S':St} {a:Act} {w w':World} {C:bw}
theorem R.keep(hR:R E g S a w)(k:cY):R E g (S.keep k) a w :=
 hR.sub (fun _ _ h=>EU h) (fun _ _ h=>EU h) (fun _ _ h=>EU h) rfl
theorem u6:∀{ds:List Nat} {S S':St},S.clean ds=some S'→nj S' S∧∀d∈ds,S'.eG d
 |[],S,S',h=>by simp only[St.clean,Option.some.injEq]at h;subst h;exact⟨.refl S,by simp⟩
 |d::ds,S,S',h=>by
  simp only[St.clean]at h;cases hc:((S.env.filter fun p => !(p.1==d)).all (fun p => !p.2.cj d)&&(S.aU.filter fun p => !(p.1==d)).all (fun p=>p.2.all fun v => !v.cD d)) with
  |false=>rw[hc]at h;cases h
  |true =>
   rw[hc]at h;simp only[cond_true]at h;simp only[Bool.and_eq_true,List.all_eq_true,Bool.not_eq_true']at hc;obtain⟨h1,h2⟩:=u6 h;have tS:nj ({ env:=S.env.filter fun p => !(p.1==d),aU:=S.aU.filter fun p => !(p.1==d),bg:=S.bg.filter fun p => !(p.1==d),aF:=S.aF }:St) S:=by
    refine⟨fun s v e=>?_,fun s v e=>?_,fun s v e=>?_,rfl⟩
    all_goals
     simp only[nV]at e;split at e
     ·cases e
     ·exact e
   refine⟨h1.trans tS,fun x hx=>?_⟩;rcases List.mem_cons.1 hx with e|e
   ·subst e
    refine h1.eG ⟨fun s v hs=>?_,fun id cs ho=>?_,?_,?_⟩
    ·exact hc.1 (s,v) (tM hs)
    ·exact fun v hv=>by have:=hc.2 (id,cs) (tM ho);simp only[List.all_eq_true,Bool.not_eq_true']at this;exact this v hv
    ·show look x (S.aU.filter _)=none;rw[nV,if_pos rfl]
    ·show look x (S.bg.filter _)=none;rw[nV,if_pos rfl]
   ·exact h2 x e
theorem ad3(hR:R E g S a w){s bZ sz:Nat}(h:gG.run S (.norm s bZ sz)=some S'):∃g',R E g' S' a w:=by
 simp only[gG.run]at h;split at h
 ·rename_i hs
  split at h
  ·rename_i S1 hc
   cases h;obtain⟨hl,hn⟩:=u6 hc;have tS:nj ({ S with env:=S.env.filter fun p => !(p.1==s) }:St) S:=by
    refine⟨fun k v e=>?_,fun _ _ e=>e,fun _ _ e=>e,rfl⟩;simp only[nV]at e;split at e
    ·cases e
    ·exact e
   obtain⟨x,hx,hr⟩:=hR.env s _ hs;have:=nG hr;subst this;obtain⟨g',r1,r2,_⟩:=(hR.less (hl.trans tS)).Hy (hn bZ (by simp))
   refine⟨g',⟨fun k v hk=>?_,r1.aU,r1.bg,r1.aF,r1.defers,r1.jh,r1.same⟩⟩;rw[dA]at hk;split at hk
   ·rename_i e
    subst e;cases hk;exact⟨_,hx,r2 sz _ (.inl rfl)⟩
   ·exact r1.env k v hk
  ·cases h
 ·rename_i hs
  split at h
  ·rename_i S1 hc
   cases h;obtain⟨hl,hn⟩:=u6 hc;have tS:nj ({ S with env:=S.env.filter fun p => !(p.1==s) }:St) S:=by
    refine⟨fun k v e=>?_,fun _ _ e=>e,fun _ _ e=>e,rfl⟩;simp only[nV]at e;split at e
    ·cases e
    ·exact e
   obtain⟨x,hx,hr⟩:=hR.env s _ hs;have hz:=sJ hr;obtain⟨g',r1,r2,_⟩:=(hR.less (hl.trans tS)).Hy (hn bZ (by simp))
   refine⟨g',⟨fun k v hk=>?_,r1.aU,r1.bg,r1.aF,r1.defers,r1.jh,r1.same⟩⟩;rw[dA]at hk;split at hk
   ·rename_i e
    subst e;cases hk;exact⟨_,hx,r2 sz _ hz⟩
   ·exact r1.env k v hk
  ·cases h
 ·cases h;exact⟨g,hR⟩
theorem Sx(hR:R E g S a w){id off bZ sz:Nat}(h:S.mJ id off bZ sz=some S'):∃g',R E g' S' a w:=by
 simp only[St.mJ]at h;split at h
 ·rename_i cs ei
  split at h
  ·rename_i iW
   split at h
   ·rename_i S1 hc
    split at h
    ·rename_i zE xt
     cases h;obtain⟨hl,hn⟩:=u6 hc;have eT:=hR.less hl;have ad4:zE=cs:=by
      have:=hl.aU id zE xt;rw[ei]at this;exact(Option.some.inj this).symm
     subst ad4;obtain⟨g',r1,r2,r3⟩:=eT.Hy (hn bZ (by simp))
     refine⟨g',⟨r1.env,fun i dQ hi=>?_,r1.bg,r1.aF,r1.defers,r1.jh,r1.same⟩⟩;rw[dA]at hi;split at hi
     ·rename_i e
      subst e;cases hi;rcases r1.aU id zE xt with h0 | ⟨h1,h2,h3,c,e,h4,fC,h5⟩
      ·rw[h0.1]at iW;simp at iW
      refine .inr ⟨h1,h2,h3,c,e,h4,fC,fun j v hj=>?_⟩;rw[List.getElem?_set]at hj;split at hj
      ·rename_i ej
       subst ej;split at hj
       ·cases hj
        obtain⟨_,y,h7,h8⟩:=h5 off _ iW;refine⟨rfl,y,h7,?_⟩;exact r2 sz _ (.inl (nG h8))
       ·cases hj
      ·exact h5 j v hj
     ·exact r1.aU i dQ hi
    ·cases h
   ·cases h
  ·cases h;exact⟨g,hR⟩
 ·cases h;exact⟨g,hR⟩
theorem ad5(hR:R E g S a w){id off bZ sz:Nat}(h:gG.run S (.mJ id off bZ sz)=some S'):∃g',R E g' S' a w:=Sx hR h
theorem ad6{X:Cx}{bZ:Nat}{v:V}{x:Value}(h:aZ X v x):aZ X (V.forget bZ v) x:=by
 unfold V.forget;split
 ·rename_i f n es
  cases f==bZ with
  |false=>exact h
  |true =>
   cases h with
   |plain h _ =>
    refine .plain ?_ (fun _ _ _ e=>by cases e)
    cases h with
    |nil=>exact .nil _ _
    |empty _ _ a cap=>exact .empty _ _ a cap
    |slice _ _ _ b off cap zs hb eA iM hc hv hp hm=>exact .slice _ _ _ b off cap zs hb eA iM hc hv hp hm
 ·exact h
theorem ad7{bZ:Nat}{v:V}(h:v.cI=true):(V.forget bZ v).cI=true:=by
 unfold V.forget;split
 ·rename_i f n es;cases f==bZ<;>rfl
 ·exact h
theorem ad8(hR:R E g S a w){id back bZ sz:Nat}(h:gG.run S (.Hk id back bZ sz)=some S'):∃g',R E g' S' a w:=by
 simp only[gG.run]at h;split at h
 ·rename_i cs ei
  split at h
  ·refine Sx (g:=g) (S:={ S with aU:=(id,cs.map (V.forget bZ))::S.aU.filter fun p => !(p.1==id) }) ⟨hR.env,fun i dQ hi=>?_,hR.bg,hR.aF,hR.defers,hR.jh,hR.same⟩ h
   have hi:look i ((id,cs.map (V.forget bZ))::S.aU.filter fun p => !(p.1==id))=some dQ:=hi;rw[dA]at hi;by_cases mO:id=i
   ·subst mO
    rw[if_pos rfl]at hi;cases hi;rcases hR.aU id cs ei with h0 | ⟨h1,h2,h3,c,e,h4,fC,h5⟩
    ·exact .inl ⟨by rw[h0.1];rfl,h0.2⟩
    refine .inr ⟨h1,h2,h3,c,e,h4,fC,fun j v hj=>?_⟩;rw[List.getElem?_map]at hj;cases hu:cs[j]? with
    |none=>simp[hu]at hj
    |some u =>
     simp only[hu,Option.map_some,Option.some.injEq]at hj;subst hj;obtain⟨q1,y,q2,q3⟩:=h5 j u hu;exact⟨ad7 q1,y,q2,ad6 q3⟩
   ·rw[if_neg mO,nV]at hi
    split at hi
    ·cases hi
    ·exact hR.aU i dQ hi
  ·cases h;exact⟨g,hR⟩
 ·cases h;exact⟨g,hR⟩
theorem Sy{α β:Type}{s:Nat}{f:α→β}:∀{l:List (Nat×α)},look s (l.map fun p=>(p.1,f p.2))=(look s l).map f
 |[]=>rfl
 |(k,v)::l=>by
  simp only[List.map_cons,dA];split
  ·rfl
  ·exact Sy
theorem ad9(hR:R E g S a w){i b:Nat}(h:gG.run S (.iT i b)=some S'):∃g',R E g' S' a w:=by
 simp only[gG.run]at h;split at h
 ·rename_i S1 hc
  obtain⟨hl,hn⟩:=u6 hc;have eT:=hR.less hl;have hn:=hn b (by simp)
  split at h
  ·rename_i cs ei
   cases h;obtain⟨g',r1,r2,r3,_⟩:=eT.EV hn ei;refine⟨g',⟨fun s v hs=>?_,r1.aU,r1.bg,r1.aF,r1.defers,r1.jh,r1.same⟩⟩;have hs:look s (S1.env.map fun p=>(p.1,V.iT i b p.2))=some v:=hs;rw[Sy]at hs;cases hu:look s S1.env with
   |none=>simp[hu]at hs
   |some u =>
    simp only[hu,Option.map_some,Option.some.injEq]at hs;subst hs;obtain⟨x,hx,hr⟩:=eT.env s u hu;refine⟨x,hx,?_⟩;unfold V.iT;split
    ·rename_i k sz n
     cases hk:k==i with
     |true =>
      have:=eq_of_beq hk;subst this;exact r2 _ _ _ hr
     |false=>exact r3 _ _ hr (hn.env s _ hu)
    ·exact r3 _ _ hr (hn.env s _ hu)
  ·cases h;exact⟨g,eT⟩
 ·cases h
theorem R.frozen(hR:R E g S a w){id off n:Nat}{sh:Sh}{es:List (List V)}{x:Value}(hr:aZ (S.cx g w) (.bQ id off n) x)(jL:S.sH sh (.bQ id off n)=some es) :
  ∃g',R E g' { S with aU:=S.aU.filter fun p => !(p.1==id) } a w∧aZ (S.cx g' w) (.slice none sh.length es) x∧∀v x,aZ (S.cx g w) v x→aZ (S.cx g' w) v x:=by
 obtain⟨l7,n',he,hlen,sN⟩:=Hx hR hr jL;cases he;rcases sN with⟨h0,hz⟩ | ⟨cap,eA,hx,c,e,hh,fQ,w8,cA,gf,hm⟩
 ·subst h0
  obtain rfl:=List.length_eq_zero_iff.1 hlen;have tS:nj ({ S with aU:=S.aU.filter fun p => !(p.1==id) }:St) S:=by
   refine⟨fun _ _ e=>e,fun k v e=>?_,fun _ _ e=>e,rfl⟩;simp only[nV]at e;split at e
   ·cases e
   ·exact e
  refine⟨g,hR.less tS,.plain (by rcases hz with rfl | ⟨q,rfl⟩<;>first|exact .nil _ _|exact .empty _ _ q 0) (fun _ _ _ e=>by cases e),fun v x hx=>hx.mono ⟨Nat.le_refl _,fun _ _ _ _ h=>h,fun _ _=>Nat.le_refl _,Nat.le_refl _,fun _ _=>rfl⟩ fun i=>.inl (iU.refl _ i)⟩
 let g':Gh:={ g with m:=cS g.m (g.κ id) c.size,ow:=cS g.ow (g.κ id) .none }
 have t:Touch E g S w g' S.bg S.aF.length w (g.κ id) none none :=
  {os:=rfl,tape:=rfl,output:=rfl,size:=Nat.le_refl _,heap:=fun _ _ _=>rfl,m:=fun b hb=>fR _ _ hb,ow:=fun b hb=>fR _ _ hb,κ:=fun _ _=>rfl,cp:=fun _ _=>rfl,τ:=fun _ _=>rfl,T:=fun _ _=>rfl,
   γ:=fun _ _=>rfl,eN:=Nat.le_refl _,γnew:=fun i a b=>absurd a (by omega),fresh:=.inl gf,ib:=fun p q _ e=>by(have e:cS g.ow (g.κ id) .none (g.κ id)=.cell p q:=e);rw[dG]at e;exact nomatch e
   lv:=fun i e=>by(have e:cS g.ow (g.κ id) .none (g.κ id)=.aF i:=e);rw[dG]at e;exact nomatch e
   jK:=fun _ _ _ h=>h,oV:=fun _=>by rw[hm];exact Nat.zero_le _ }
 have hk:∀i,iU (S.cx g w) ⟨w.heap,g',S.aF.length,S.bg⟩ i:=fun i=>t.keeps hR (fun e=>by cases e) (fun e=>by cases e) (fun _ e=>by rw[cA]at e;cases e)
 have bA:g.κ id<w.heap.size:=by
  rcases Nat.lt_or_ge (g.κ id) w.heap.size with h|h
  ·exact h
  ·simp[Array.getElem?_eq_none h]at hh
 refine⟨g',R.nK t hR rfl rfl (fun i=>.inl (hk i)) (fun k v qx=>.inl qx) (fun i dQ hi=>?_) (fun f k b hf hb=>.inl ⟨(fun e=>by cases e),fun _ e=>by rw[cA]at e;cases e⟩)
  (fun i o hi=>.inl ⟨hi,fun _=>⟨fun e=>(by rw[cA]at e;cases e),fun _ e=>(by rw[cA]at e;cases e)⟩⟩),?_,fun v x hx=>hx.mono t.le fun i=>.inl (hk i)⟩
 ·have hi:look i (S.aU.filter fun p => !(p.1==id))=some dQ:=hi
  rw[nV]at hi;split at hi
  ·cases hi
  ·rename_i cg
   exact .inl ⟨hi,(fun e=>by cases e),fun _ e=>cg (by rw[cA]at e;cases e;rfl)⟩
 ·subst hx
  rw[←hlen];refine .plain (AG (m:=g'.m) (w8.mono t.le) bA (by omega) (fun j y hj=>?_) ?_ _) (fun _ _ _ e=>by cases e)
  ·show cellAt w.heap (g.κ id) _=_
   rw[kZ hh];rw[List.getElem?_take]at hj;split at hj
   ·simpa using hj
   ·cases hj
  ·show _≤cS g.m (g.κ id) c.size (g.κ id)
   rw[dG,hlen,Nat.zero_add];exact fQ
theorem aea(hR:R E g S a w){s:Nat}{sh:Sh}(h:gG.run S (.freeze s sh)=some S'):∃g',R E g' S' a w:=by
 simp only[gG.run]at h;split at h
 ·rename_i id off n hs
  split at h
  ·rename_i es jL
   cases h;obtain⟨x,hx,hr⟩:=hR.env s _ hs;obtain⟨g',r1,r2,_⟩:=hR.frozen hr jL;refine⟨g',⟨fun k v hk=>?_,r1.aU,r1.bg,r1.aF,r1.defers,r1.jh,r1.same⟩⟩;rw[dA]at hk;split at hk
   ·rename_i e
    subst e;cases hk;exact⟨x,hx,r2⟩
   ·exact r1.env k v hk
  ·cases h
 ·cases h;exact⟨g,hR⟩
theorem aeb(hR:R E g S a w){id off:Nat}{sh:Sh}(h:gG.run S (.Hl id off sh)=some S'):∃g',R E g' S' a w:=by
 simp only[gG.run]at h;split at h
 ·rename_i cs ei
  split at h
  ·rename_i i s n iW
   split at h
   ·rename_i es jL
    cases jk:i==id with
    |true=>simp[jk]at h
    |false =>
     simp only[jk,cond_false]at h;cases h;have cg:id≠i:=fun e=>by subst e;simp at jk
     obtain⟨_,_,_,c,e,hh,_,hj⟩:=(hR.aU id cs ei).resolve_left (fun h0=>by rw[h0.1]at iW;simp at iW)
     obtain⟨_,y,hy,hr⟩:=hj off _ iW;obtain⟨g',r1,r2,r3⟩:=hR.frozen hr jL;have xt:look id (S.aU.filter fun p => !(p.1==i))=some cs:=by rw[nV,if_neg cg];exact ei
     refine⟨g',⟨r1.env,fun k dQ hk=>?_,r1.bg,r1.aF,r1.defers,r1.jh,r1.same⟩⟩;have hk:look k ((id,cs.set off (.slice none sh.length es))::(S.aU.filter fun p => !(p.1==i)).filter fun p => !(p.1==id))=some dQ:=hk;rw[dA]at hk;by_cases kK:id=k
     ·subst kK
      rw[if_pos rfl]at hk;cases hk;obtain⟨h1,h2,h3,c',e',h4,fC,h5⟩:=(r1.aU id cs xt).resolve_left (fun h0=>by rw[h0.1]at iW;simp at iW)
      refine .inr ?_;have oY:g'.κ id=g.κ id:=by
       have:aZ (S.cx g w) (.bf id 0) (.pointer (some ⟨g.κ id,0,none⟩)):=.bf id 0;have h6:=yT (r3 _ _ this);simp only[Value.pointer.injEq,Option.some.injEq,Addr.mk.injEq]at h6;exact h6.1.symm
      have u7:c'=c:=by
       rw[oY,hh]at h4;cases h4;rfl
      subst u7;refine⟨h1,h2,h3,c',e',h4,fC,fun j v qy=>?_⟩;rw[List.getElem?_set]at qy;split at qy
      ·rename_i ej
       subst ej;split at qy
       ·cases qy
        exact⟨rfl,y,hy,r2⟩
       ·cases qy
      ·exact h5 j v qy
     ·rw[if_neg kK,nV]at hk
      split at hk
      ·cases hk
      ·exact r1.aU k dQ hk
   ·cases h
  ·cases h;exact⟨g,hR⟩
 ·cases h;exact⟨g,hR⟩
theorem Sz(hR:R E g S a w){s id sz:Nat}{v:V}(hs:look s S.env=some v)(hz:∀x,aZ (S.cx g w) v x→la x)(h:S.rj s id sz=some S'):∃g',R E g' S' a w:=by
 unfold St.rj at h;split at h
 ·rename_i S1 hc
  cases h;obtain⟨hl,hn⟩:=u6 hc;obtain⟨x,hx,hr⟩:=hR.env s _ hs;obtain⟨g',r1,_,r2,_⟩:=(hR.less (hl.trans L5)).H3 (hn id (by simp)) 0
  refine⟨g',⟨fun k v hk=>?_,r1.aU,r1.bg,r1.aF,r1.defers,r1.jh,r1.same⟩⟩;replace hk:look k ((s,.bQ id sz 0)::S1.env)=some v:=hk;rw[dA]at hk;split at hk
  ·rename_i e;subst e;cases hk;exact⟨x,hx,.pM _ _ (hz x hr) r2⟩
  ·exact r1.env k v hk
 ·cases h
theorem aec(hR:R E g S a w){s id sz:Nat}(h:gG.run S (.rj s id sz)=some S'):∃g',R E g' S' a w:=by
 simp only[gG.run]at h;split at h
 ·rename_i hs;exact Sz hR hs (fun x hx=>.inl (nG hx)) h
 ·rename_i hs;exact Sz hR hs (fun x hx=>sJ hx) h
 ·cases h;exact⟨g,hR⟩
theorem aed(hR:R E g S a w){s:Nat}{sh:Sh}(h:gG.run S (.share s sh)=some S'):∃g',R E g' S' a w:=by
 simp only[gG.run]at h;split at h
 ·rename_i id n len hs
  split at h
  ·rename_i es S1 jL hc
   cases h;obtain⟨hl,hn⟩:=u6 hc;have hn:=hn id (by simp)
   have hl:=hl.trans L5;obtain⟨x,hx,hr⟩:=hR.env s _ hs;obtain⟨l7,n',he,hlen,sN⟩:=Hx hR hr jL;cases he;have eT:=hR.less hl;rcases sN with⟨h0,hz⟩ | ⟨cap,eA,H4,c,e,hh,fQ,w8,cA,gf,hm⟩
   ·subst h0
    obtain rfl:=List.length_eq_zero_iff.1 hlen;have CQ:R E g { S1 with env:=(s,.dR 0)::S1.env } a w:=⟨fun k v hk=>by
     replace hk:look k ((s,.dR 0)::S1.env)=some v:=hk;rw[dA]at hk;split at hk
     ·rename_i e;subst e;cases hk;exact⟨x,hx,.dR hz⟩
     ·exact eT.env k v hk,eT.aU,eT.bg,eT.aF,eT.defers,eT.jh,eT.same⟩
    obtain⟨g',r⟩:=H5 (n:=sh.length) CQ (s:=s) (v:=.dR 0) (by show look s ((s,.dR 0)::S1.env)=_;rw[dA,if_pos rfl]) (fun x hx=>sJ hx)
    refine⟨g',⟨fun k v hk=>?_,r.aU,r.bg,r.aF,r.defers,r.jh,r.same⟩⟩;refine r.env k v ?_;replace hk:look k ((s,.dh S1.aF.length sh.length 0)::S1.env)=some v:=hk;show look k ((s,.dh S1.aF.length sh.length 0)::(s,.dR 0)::S1.env)=some v;rw[dA]at hk ⊢;split at hk
    ·rename_i e;rw[if_pos e];exact hk
    ·rename_i e;rw[if_neg e,dA,if_neg e];exact hk
   ·obtain⟨f1,f2⟩:=xn w8
    obtain⟨g',r1,r2,_⟩:=eT.L6 (id:=id) (n:=sh.length) hn cA gf hm hh H4 eA (us:=es.flatten) (fun j v hv=>by
     obtain⟨q1,y,q2,q3⟩:=f2 j v hv;rw[List.getElem?_take]at q2;split at q2
     ·exact⟨q1,y,by simpa using q2,q3⟩
     ·cases q2)
    refine⟨g',⟨fun k u hk=>?_,r1.aU,r1.bg,r1.aF,r1.defers,r1.jh,r1.same⟩⟩;replace hk:look k ((s,.dh S1.aF.length sh.length es.length)::S1.env)=some u:=hk;rw[dA]at hk;split at hk
    ·rename_i e;subst e;cases hk;rw[hlen];exact⟨x,hx,r2⟩
    ·exact r1.env k u hk
  ·cases h
 ·rename_i hs;cases h;exact H5 hR hs (fun x hx=>.inl (nG hx))
 ·rename_i hs;cases h;exact H5 hR hs (fun x hx=>sJ hx)
 ·cases h
theorem R.L7(hR:R E g S a w){id off:Nat}{cs:List V}{v0 v1:V}(ei:look id S.aU=some cs)(iW:cs[off]?=some v0)(hc:v1.cI=true)(hx:∀y,aZ (S.cx g w) v0 y→aZ (S.cx g w) v1 y) :
  R E g { S with aU:=(id,cs.set off v1)::S.aU } a w :=
 ⟨hR.env,fun k dQ hk=>by
  replace hk:look k ((id,cs.set off v1)::S.aU)=some dQ:=hk;rw[dA]at hk;split at hk
  ·rename_i e
   subst e;cases hk;obtain⟨h1,h2,h3,c,e,h4,h5,h6⟩:=(hR.aU id cs ei).resolve_left (fun h=>by rw[h.1]at iW;simp at iW)
   refine .inr ⟨h1,h2,h3,c,e,h4,h5,fun j v hj=>?_⟩;rw[List.getElem?_set]at hj;split at hj
   ·rename_i ej
    subst ej;split at hj
    ·cases hj
     obtain⟨_,y,h7,h8⟩:=h6 off _ iW;exact⟨hc,y,h7,hx y h8⟩
    ·cases hj
   ·exact h6 j v hj
  ·exact hR.aU k dQ hk,hR.bg,hR.aF,hR.defers,hR.jh,hR.same⟩
theorem SA{S S1:St}(hl:nj S1 S){id:Nat}{cs zE:List V}(h:look id S.aU=some cs)(h1:look id S1.aU=some zE):zE=cs:=by
 have:=hl.aU id zE h1;rw[h]at this;exact(Option.some.inj this).symm
theorem aee(hR:R E g S a w){id off i sz:Nat}(h:gG.run S (.yK id off i sz)=some S'):∃g',R E g' S' a w:=by
 simp only[gG.run,St.yK]at h;split at h
 ·rename_i cs ei
  split at h
  ·rename_i iW
   split at h
   ·rename_i S1 hc
    split at h
    ·rename_i zE xt
     cases h;obtain⟨hl,hn⟩:=u6 hc;obtain rfl:=SA hl ei xt;have hn:=hn i (by simp)
     obtain⟨g',r1,_,r2,_⟩:=(hR.less hl).H3 hn 0;have cg:i≠id:=fun e=>by subst e;rw[hn.obj]at xt;cases xt
     exact⟨g',r1.L7 (v0:=.bV) (by show look id ((i,[])::S1.aU)=_;rw[dA,if_neg cg];exact xt) iW rfl fun y hy=>.pM _ _ (.inl (nG hy)) r2⟩
    ·cases h
   ·cases h
  ·cases h;exact⟨g,hR⟩
 ·cases h;exact⟨g,hR⟩
theorem aef(hR:R E g S a w){i b id off:Nat}(h:gG.run S (.yL i b id off)=some S'):∃g',R E g' S' a w:=by
 simp only[gG.run,St.yL]at h;split at h
 ·rename_i ds oE
  split at h
  ·rename_i k s n iW
   cases CR:(k==i && !(id==i)) with
   |false=>simp only[CR,cond_false]at h;cases h;exact⟨g,hR⟩
   |true =>
    simp only[CR,cond_true]at h;simp only[Bool.and_eq_true,beq_iff_eq,Bool.not_eq_true',beq_eq_false_iff_ne]at CR;obtain⟨rfl,cg⟩:=CR;split at h
    ·rename_i S1 hc
     split at h
     ·rename_i cs L8 ei H6
      cases h;obtain⟨hl,hn⟩:=u6 hc;obtain rfl:=SA hl oE H6;have hn:=hn b (by simp)
      obtain⟨g',r1,_,_,r4⟩:=(hR.less hl).EV hn ei;have SB:b≠id:=fun e=>by subst e;rw[hn.obj]at H6;cases H6
      exact⟨g',r1.L7 (v0:=.bQ k s n) (by show look id ((b,cs)::S1.aU.filter fun p => !(p.1==k))=_;rw[dA,if_neg SB,nV,if_neg cg];exact H6) iW rfl fun y hy=>r4 _ _ _ hy⟩
     ·cases h
    ·cases h
  ·cases h;exact⟨g,hR⟩
 ·cases h;exact⟨g,hR⟩
theorem aeg(hR:R E g S a w){id off:Nat}{sh:Sh}(h:gG.run S (.yM id off sh)=some S'):∃g',R E g' S' a w:=by
 simp only[gG.run,St.yM]at h;split at h
 ·rename_i ds oE
  split at h
  ·rename_i i s n iW
   cases vW:(n==0) with
   |true =>
    simp only[vW,cond_true]at h;cases h;have:=eq_of_beq vW;subst this;refine⟨g,hR.L7 oE iW rfl fun y hy=>.plain ?_ (fun _ _ _ e=>by cases e)⟩
    rcases pO hy with⟨cap,_,_,rfl⟩ | ⟨_,rfl | ⟨q,rfl⟩,_⟩
    ·exact .empty _ _ _ _
    ·exact .nil _ _
    ·exact .empty _ _ _ _
   |false =>
    simp only[vW,cond_false]at h;split at h
    ·rename_i es S1 jL hc
     cases jk:i==id with
     |true=>simp only[jk,cond_true]at h;cases h
     |false =>
      simp only[jk,cond_false]at h;cases h;have cg:i≠id:=fun e=>by subst e;simp at jk
      obtain⟨hl,hn⟩:=u6 hc;have hn:=hn i (by simp)
      have tS:nj ({ S with aU:=S.aU.filter fun p => !(p.1==id) }:St) S:=by
       refine⟨fun _ _ e=>e,fun k v e=>?_,fun _ _ e=>e,rfl⟩;simp only[nV]at e;split at e
       ·cases e
       ·exact e
      have eT:=hR.less (hl.trans tS);obtain⟨o1,o2,o3,c,e,o4,o5,o6⟩:=(hR.aU id ds oE).resolve_left (fun h=>by rw[h.1]at iW;simp at iW)
      obtain⟨_,y,q1,q2⟩:=o6 off _ iW;obtain⟨l7,n',he,hlen,sN⟩:=Hx hR q2 jL;cases he;obtain⟨cap,eA,H4,c',e',hh,fQ,w8,cA,gf,hm⟩:=sN.resolve_left (fun h=>by rw[h.1]at vW;simp at vW)
      obtain⟨f1,f2⟩:=xn w8;obtain⟨g',r1,r2,m1,m2,m3,m4,m5⟩:=eT.L6 (id:=i) (n:=sh.length) hn cA gf hm hh H4 eA (us:=es.flatten) (fun j v hv=>by
       obtain⟨q1,y,q2,q3⟩:=f2 j v hv;rw[List.getElem?_take]at q2;split at q2
       ·exact⟨q1,y,by simpa using q2,q3⟩
       ·cases q2)
      refine⟨g',⟨r1.env,fun k dQ hk=>?_,r1.bg,r1.aF,r1.defers,r1.jh,r1.same⟩⟩;replace hk:look k ((id,ds.set off (.dh S1.aF.length sh.length n))::S1.aU)=some dQ:=hk;rw[dA]at hk;split at hk
      ·rename_i ee
       subst ee;cases hk;have oY:g.κ id≠g.κ i:=fun h=>by
        rw[h,cA]at o1;injection o1 with o1;exact cg o1
       refine .inr ⟨by rw[m2,m4 _ oY];exact o1,by rw[m2];exact o2,by rw[m1,m2];exact o3,c,e,by rw[m2];exact o4,by rw[m3];exact o5,fun j v hj=>?_⟩
       rw[List.getElem?_set]at hj;split at hj
       ·rename_i ej
        subst ej;split at hj
        ·cases hj
         exact⟨rfl,y,q1,r2⟩
        ·cases hj
       ·obtain⟨z1,z,z2,z3⟩:=o6 j v hj
        exact⟨z1,z,z2,m5 _ _ ((hl.trans tS).rel z3)⟩
      ·exact r1.aU k dQ hk
    ·cases h
  ·cases h;exact⟨g,hR⟩
 ·cases h;exact⟨g,hR⟩
theorem R.dead(hR:R E g S a w)(i:Nat):R E g { S with aF:=S.aF.set i (.cells []) } a w:=by
 have hl:(S.aF.set i (aP.cells [])).length=S.aF.length:=by simp
 have lZ:(({ S with aF:=S.aF.set i (.cells []) }:St).cx g w)=S.cx g w:=by simp[St.cx]
 refine⟨by rw[lZ];exact hR.env,by rw[lZ];exact hR.aU,hR.bg,⟨fun k o hk=>?_,fun k o hk=>?_,fun b k ho=>by rw[hl];exact hR.aF.z b k ho⟩,hR.defers,hR.jh,by rw[hl];exact hR.same⟩
 ·rw[hl]
  simp only[List.getElem?_set]at hk;split at hk
  ·split at hk
   ·cases hk;exact .inl rfl
   ·cases hk
  ·exact hR.aF.obj k o hk
 ·simp only[List.getElem?_set]at hk
  split at hk
  ·split at hk
   ·cases hk;exact fun j n es y hj=>by simp at hj
   ·cases hk
  ·exact hR.aF.own k o hk
theorem SC(hR:R E g S a w){jf aei:List Sh}{v u:V}{G:List aP}{x:Value}(hr:aZ (S.cx g w) v x)(h:St.Ca S.aF jf v=some (u,aei,G)) :
  ∃g',R E g' { S with aF:=G } a w∧aZ (({ S with aF:=G }:St).cx g' w) u x∧∀v x,aZ (S.cx g w) v x→aZ (({ S with aF:=G }:St).cx g' w) v x:=by
 unfold St.Ca at h;split at h
 ·rename_i i n len
  split at h
  ·rename_i sh aej cs fw
   cases hc:(n==sh.length&&Nat.blt 0 n&&Nat.ble (len*n) cs.length) with
   |false=>simp[hc]at h
   |true =>
    simp only[hc,cond_true]at h;simp only[Bool.and_eq_true,beq_iff_eq]at hc;obtain⟨⟨rfl,gM⟩,hle⟩:=hc;have gM:0<sh.length:=by simpa [Nat.blt_eq] using gM
    have hle:=Nat.le_of_ble_eq_true hle;split at h
    ·rename_i es lL
     cases h;have hlen:es.length=len:=by
      obtain⟨h1,_⟩:=KT lL;rw[KU]at h1;exact h1
     have lZ:(({ S with aF:=S.aF.set i (.cells []) }:St).cx g w)=S.cx g w:=by simp[St.cx]
     have hz:len=0→∃g',R E g' { S with aF:=S.aF.set i (.cells []) } a w∧aZ (({ S with aF:=S.aF.set i (.cells []) }:St).cx g' w) (.slice none sh.length es) x∧∀v x,aZ (S.cx g w) v x→aZ (({ S with aF:=S.aF.set i (.cells []) }:St).cx g' w) v x:=fun h0=>by
      subst h0;obtain rfl:=List.length_eq_zero_iff.1 hlen;refine⟨g,hR.dead i,.plain ?_ (fun _ _ _ e=>by cases e),fun v x hx=>by rw[lZ];exact hx⟩
      obtain⟨_,⟨cap,_,e⟩ | ⟨_,e | ⟨q,e⟩⟩⟩:=Hr hr
      ·rw[e];exact .empty _ _ _ _
      ·rw[e];exact .nil _ _
      ·rw[e];exact .empty _ _ _ _
     rcases Nat.eq_zero_or_pos len with h0|h0
     ·exact hz h0
     obtain⟨hi,hx⟩:=Hr hr;obtain⟨cap,eA,e1⟩:=hx.resolve_right (fun h=>by have:=h.1;omega)
     have cg:cs≠[]:=fun e=>by
      subst e;simp only[List.length_nil,Nat.le_zero,Nat.mul_eq_zero]at hle;omega
     obtain⟨cA,hm,c,e,hh,dw,hj⟩:=(hR.aF.obj i _ fw).resolve_left (fun e=>cg (by cases e;rfl))
     have pd:Le ⟨w.heap,g,S.aF.length,[]⟩ (S.cx g w):=⟨Nat.le_refl _,fun _ _ _ _ h=>h,fun _ _=>Nat.le_refl _,Nat.le_refl _,fun _ _=>rfl⟩;obtain⟨h1,h2⟩:=KV (X:=S.cx g w) (c:=c) (cs:=cs.map V.ko) (off:=0) (fun j v hv=>by
      rw[List.getElem?_map]at hv;cases H7:cs[j]? with
      |none=>simp[H7]at hv
      |some v0 =>
       simp[H7]at hv;subst hv;have bA:j<c.size:=Nat.lt_of_lt_of_le (eK H7) dw;obtain⟨_,q2,q3⟩:=hj j v0 c[j] H7 (by simp[bA])
       exact⟨c[j],by simp[bA],KR (q3.mono pd (fun d=>.inr (q2 d)))⟩) (by simp;exact hle) lL
     simp only[List.drop_zero]at h2
     let g':Gh:={ g with m:=cS g.m (g.γ i) (len*sh.length),ow:=cS g.ow (g.γ i) .none }
     have t:Touch E g S w g' S.bg S.aF.length w (g.γ i) none none :=
      {os:=rfl,tape:=rfl,output:=rfl,size:=Nat.le_refl _,heap:=fun _ _ _=>rfl,m:=fun b hb=>fR _ _ hb,ow:=fun b hb=>fR _ _ hb,κ:=fun _ _=>rfl,cp:=fun _ _=>rfl,
       τ:=fun _ _=>rfl,T:=fun _ _=>rfl,γ:=fun _ _=>rfl,eN:=Nat.le_refl _,γnew:=fun i a b=>absurd a (by omega)
       fresh:=(hR.HE cA).imp (fun z=>z) .inl,ib:=fun p q hb e=>by(have e:cS g.ow (g.γ i) .none (g.γ i)=.cell p q:=e);rw[dG]at e;cases e
       lv:=fun k e=>by(have e:cS g.ow (g.γ i) .none (g.γ i)=.aF k:=e);rw[dG]at e;cases e
       jK:=fun _ _ _ hy=>hy,oV:=fun _=>by rw[hm];exact Nat.zero_le _ }
     have xw:∀k,iU (S.cx g w) ⟨w.heap,g',S.aF.length,S.bg⟩ k:=fun k=>t.keeps hR (fun e=>by cases e) (fun e=>by cases e) (fun _ e=>by rw[cA]at e;cases e)
     have SD:(({ S with aF:=S.aF.set i (.cells []) }:St).cx g' w)=⟨w.heap,g',S.aF.length,S.bg⟩:=by simp[St.cx]
     refine⟨g',R.Eh t hR rfl (by simp) (fun k=>.inl (xw k)) (fun s v hs=>.inl hs) (fun k dQ ho=>.inl ⟨ho,(fun e=>by cases e),fun _ e=>by rw[cA]at e;cases e⟩)
      (fun f k b hf hb=>.inl ⟨(fun e=>by cases e),fun _ e=>by rw[cA]at e;cases e⟩) (fun k o hk h0=>?_),?_,fun v x hx=>by rw[SD];exact hx.mono t.le fun k=>.inl (xw k)⟩
     ·simp only[List.getElem?_set]at hk
      split at hk
      ·split at hk
       ·cases hk;exact absurd rfl h0
       ·cases hk
      ·rename_i cg
       exact .inl ⟨hk,fun _=>⟨fun e=>cg (by rw[cA]at e;cases e;rfl),fun _ e=>by rw[cA]at e;cases e⟩⟩
     ·rw[SD,e1,← hlen]
      refine .plain (AG (m:=g'.m) (h2.mono t.le) (Nat.lt_of_lt_of_le (Cr hR fw (fun e=>cg (by cases e;rfl))) (Nat.le_refl _)) (by omega) (fun j y qw=>?_) ?_ _) (fun _ _ _ e=>by cases e)
      ·show cellAt w.heap (g.γ i) _=_
       rw[kZ hh];rw[List.getElem?_take]at qw;split at qw
       ·simpa using qw
       ·cases qw
      ·show _≤cS g.m (g.γ i) (len*sh.length) (g.γ i)
       rw[dG,hlen,Nat.zero_add];exact Nat.le_refl _
    ·cases h
  ·cases h
 ·cases h;exact⟨g,hR,hr,fun v x hx=>hx⟩
theorem L9:∀{S:St} {g:Gh} (hR:R E g S a w) {jf:List Sh} {vs us:List V} {G:List aP},uK S.aF jf vs=some (us,G)→∀{xs:List Value},PW (S.cx g w) vs xs →
  ∃g',R E g' { S with aF:=G } a w∧PW (({ S with aF:=G }:St).cx g' w) us xs∧∀v x,aZ (S.cx g w) v x→aZ (({ S with aF:=G }:St).cx g' w) v x
 |S,g,hR,jf,[],us,G,h,xs,hp=>by
  simp only[uK,Option.some.injEq,Prod.mk.injEq]at h;obtain⟨rfl,rfl⟩:=h;exact⟨g,hR,hp,fun v x hx=>hx⟩
 |S,g,hR,jf,v::vs,us,G,h,xs,hp=>by
  simp only[uK]at h;split at h
  ·rename_i u SE G1 h1
   split at h
   ·rename_i us1 G2 h2
    cases h
    match xs,hp.len with
    |x::xs,hl =>
     obtain⟨g1,r1,q1,k1⟩:=SC hR (hp.at_ 0 v x rfl rfl) h1;obtain⟨g2,r2,q2,k2⟩:=L9 (S:={ S with aF:=G1 }) r1 h2 (xs:=xs) ⟨by simpa using hl,fun j v y hv hy=>k1 v y (hp.at_ (j+1) v y (by simpa using hv) (by simpa using hy))⟩
     refine⟨g2,r2,⟨by simp[q2.len],fun j v y hv hy=>?_⟩,fun v x hx=>k2 v x (k1 v x hx)⟩
     cases j with
     |zero=>simp at hv hy;subst hv;subst hy;exact k2 _ _ q1
     |succ j=>exact q2.at_ j v y (by simpa using hv) (by simpa using hy)
   ·cases h
  ·cases h
theorem ael(hR:R E g S a w){s:Nat}{jf:List Sh}(h:gG.run S (.Hm s jf)=some S'):∃g',R E g' S' a w:=by
 simp only[gG.run]at h;split at h
 ·rename_i cs hs
  split at h
  ·rename_i us G ht
   cases h;obtain⟨x,hx,hr⟩:=hR.env s _ hs;obtain⟨xs,rfl,hl,EW⟩:=pP hr;obtain⟨g',r,q,_⟩:=L9 hR ht (xs:=xs.toList) ⟨by simpa using hl,fun i v y hv hy=>EW i v y hv (by simpa using hy)⟩
   refine⟨g',⟨fun k v hk=>?_,r.aU,r.bg,r.aF,r.defers,r.jh,r.same⟩⟩;replace hk:look k ((s,.agg us)::S.env)=some v:=hk;rw[dA]at hk;split at hk
   ·rename_i e;subst e;cases hk
    exact⟨_,hx,.agg _ _ (by simpa using q.len) (fun i v y hv hy=>q.at_ i v y hv (by simpa using hy))⟩
   ·exact r.env k v hk
  ·cases h
 ·rename_i v _ hs
  split at h
  ·rename_i u SE G ht
   cases h;obtain⟨x,hx,hr⟩:=hR.env s _ hs;obtain⟨g',r,q,_⟩:=SC hR hr ht;refine⟨g',⟨fun k v hk=>?_,r.aU,r.bg,r.aF,r.defers,r.jh,r.same⟩⟩;replace hk:look k ((s,u)::S.env)=some v:=hk;rw[dA]at hk;split at hk
   ·rename_i e;subst e;cases hk;exact⟨x,hx,q⟩
   ·exact r.env k v hk
  ·cases h
 ·cases h
theorem SF:∀{G G':List aP} {jf:List Sh} {vs us:List V},uK G jf vs=some (us,G')→(∀v∈vs,v.cI=true)→∀u∈us,u.cI=true
 |G,G',jf,[],us,h,_=>by simp only[uK,Option.some.injEq,Prod.mk.injEq]at h;obtain⟨rfl,rfl⟩:=h;simp
 |G,G',jf,v::vs,us,h,hv=>by
  simp only[uK]at h;split at h
  ·rename_i u SE G1 h1
   split at h
   ·rename_i us1 G2 h2
    cases h;intro z hz;rcases List.mem_cons.1 hz with rfl|hz
    ·unfold St.Ca at h1
     split at h1
     ·rename_i i n len
      split at h1
      ·rename_i sh aej cs _
       cases hc:(n==sh.length&&Nat.blt 0 n&&Nat.ble (len*n) cs.length) with
       |false=>rw[hc]at h1;cases h1
       |true =>
        rw[hc]at h1;simp only[cond_true]at h1;split at h1
        ·cases h1;rfl
        ·cases h1
      ·cases h1
     ·cases h1;exact hv _ List.mem_cons_self
    ·exact SF h2 (fun v h=>hv v (List.mem_cons_of_mem _ h)) z hz
   ·cases h
  ·cases h
theorem aem(hR:R E g S a w){id:Nat}{jf:List Sh}(h:gG.run S (.Aq id jf)=some S'):∃g',R E g' S' a w:=by
 simp only[gG.run]at h;split at h
 ·rename_i cs ei
  split at h
  ·rename_i us G ht
   cases h;rcases hR.aU id cs ei with⟨rfl,uS⟩ | ⟨cA,gf,hm,c,e,hh,fC,hj⟩
   ·simp only[uK,Option.some.injEq,Prod.mk.injEq]at ht
    obtain⟨rfl,rfl⟩:=ht;refine⟨g,⟨hR.env,fun i dQ hi=>?_,hR.bg,hR.aF,hR.defers,hR.jh,hR.same⟩⟩;replace hi:look i ((id,[])::S.aU.filter fun p => !(p.1==id))=some dQ:=hi;rw[dA]at hi;by_cases jk:id=i
    ·subst jk
     rw[if_pos rfl]at hi;cases hi;exact hR.aU id [] ei
    ·rw[if_neg jk,nV]at hi
     split at hi
     ·cases hi
     ·exact hR.aU i dQ hi
   ·have hle:=H8 hj
    have Cj:(c.toList.take cs.length).length=cs.length:=by simp;omega
    obtain⟨g',r,q,k⟩:=L9 hR ht (xs:=c.toList.take cs.length) ⟨Cj.symm,fun i v y hv hy=>by
     obtain⟨_,y',h1,h2⟩:=hj i v hv;rw[List.getElem?_take]at hy;split at hy
     ·have hy:c[i]?=some y:=by simpa using hy
      rw[hy]at h1;cases h1;exact h2
     ·cases hy⟩
    have iX:=SF ht fun v hv=>by
     obtain⟨j,qy⟩:=List.mem_iff_getElem?.1 hv;exact(hj j v qy).1
    have oY:g'.κ id=g.κ id:=by
     have:aZ (S.cx g w) (.bf id 0) (.pointer (some ⟨g.κ id,0,none⟩)):=.bf id 0;have h6:=yT (k _ _ this);simp only[Value.pointer.injEq,Option.some.injEq,Addr.mk.injEq]at h6;exact h6.1.symm
    refine⟨g',⟨r.env,fun i dQ hi=>?_,r.bg,r.aF,r.defers,r.jh,r.same⟩⟩;replace hi:look i ((id,us)::S.aU.filter fun p => !(p.1==id))=some dQ:=hi;rw[dA]at hi;by_cases jk:id=i
    ·subst jk
     rw[if_pos rfl]at hi;cases hi;rcases r.aU id cs ei with⟨h0,uS⟩ | ⟨h1,h2,h3,c',e',h4,h5,_⟩
     ·subst h0
      have:us=[]:=List.length_eq_zero_iff.1 (by have:=q.len;simpa using this)
      exact .inl ⟨this,uS⟩
     ·rw[oY,hh]at h4
      cases h4;refine .inr ⟨h1,h2,h3,c,e,by rw[oY];exact hh,h5,fun j v hv=>?_⟩
      have pQ:j<(c.toList.take cs.length).length:=by rw[←q.len];exact eK hv
      have qw:=List.getElem?_eq_getElem pQ;refine⟨iX v (List.mem_of_getElem? hv),_,?_,q.at_ j v _ hv qw⟩;rw[List.getElem?_take]at qw;split at qw
      ·simpa using qw
      ·cases qw
    ·rw[if_neg jk,nV]at hi
     split at hi
     ·cases hi
     ·exact r.aU i dQ hi
  ·cases h
 ·cases h;exact⟨g,hR⟩
end
end Go.Vm

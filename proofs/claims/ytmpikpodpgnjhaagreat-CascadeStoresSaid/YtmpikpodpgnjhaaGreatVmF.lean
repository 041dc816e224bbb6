/- The value machine, 15: what lies between the regions. -/
import Derived.Test.YtmpikpodpgnjhaaGreatVmE
namespace Go.Vm
set_option linter.all false
theorem Cz{α:Type}{s:Nat}{v:α}{env:List (Nat×α)}:∀{l:List Nat},look s (se env l)=some v→look s env=some v
 |[],h=>by simp[se,look]at h
 |k::l,h=>by
  simp only[se]at h;split at h
  ·rename_i u hu
   rw[dF]at h;split at h
   ·rename_i e;subst e;cases h;exact hu
   ·exact Cz h
  ·exact Cz h
section
variable {P:Program} {E:Entry} {g g':Gh} {S S':St} {a:Act} {w w':World} {C:bm}
theorem R.keep(hR:R E g S a w)(k:cR):R E g (S.keep k) a w :=
 hR.sub (fun _ _ h=>Cz h) (fun _ _ h=>Cz h) (fun _ _ h=>Cz h) rfl
theorem xm:∀{ds:List Nat} {S S':St},S.clean ds=some S'→oQ S' S∧∀d∈ds,S'.ez d
 |[],S,S',h=>by simp only[St.clean,Option.some.injEq]at h;subst h;exact⟨.refl S,by simp⟩
 |d::ds,S,S',h=>by
  simp only[St.clean]at h;cases hc:((S.env.filter fun p => !(p.1==d)).all (fun p => !p.2.ca d)&&(S.aV.filter fun p => !(p.1==d)).all (fun p=>p.2.all fun v => !v.cj d)) with
  |false=>rw[hc]at h;cases h
  |true =>
   rw[hc]at h;simp only[cond_true]at h;simp only[Bool.and_eq_true,List.all_eq_true,Bool.not_eq_true']at hc;obtain⟨h1,h2⟩:=xm h;have vW:oQ ({ env:=S.env.filter fun p => !(p.1==d),aV:=S.aV.filter fun p => !(p.1==d),a7:=S.a7.filter fun p => !(p.1==d),ay:=S.ay }:St) S:=by
    refine⟨fun s v e=>?_,fun s v e=>?_,fun s v e=>?_,rfl⟩
    all_goals
     simp only[oo]at e;split at e
     ·cases e
     ·exact e
   refine⟨h1.trans vW,fun x hx=>?_⟩;rcases List.mem_cons.1 hx with e|e
   ·subst e
    refine h1.ez ⟨fun s v hs=>?_,fun id cs ho=>?_,?_,?_⟩
    ·exact hc.1 (s,v) (sy hs)
    ·exact fun v hv=>by have:=hc.2 (id,cs) (sy ho);simp only[List.all_eq_true,Bool.not_eq_true']at this;exact this v hv
    ·show look x (S.aV.filter _)=none;rw[oo,if_pos rfl]
    ·show look x (S.a7.filter _)=none;rw[oo,if_pos rfl]
   ·exact h2 x e
theorem ZU(hR:R E g S a w){s bT sz:Nat}(h:hY.run S (.norm s bT sz)=some S'):∃g',R E g' S' a w:=by
 simp only[hY.run]at h;split at h
 ·rename_i hs
  split at h
  ·rename_i S1 hc
   cases h;obtain⟨hl,hn⟩:=xm hc;have vW:oQ ({ S with env:=S.env.filter fun p => !(p.1==s) }:St) S:=by
    refine⟨fun k v e=>?_,fun _ _ e=>e,fun _ _ e=>e,rfl⟩;simp only[oo]at e;split at e
    ·cases e
    ·exact e
   obtain⟨x,hx,hr⟩:=hR.env s _ hs;have:=nE hr;subst this;obtain⟨g',r1,r2,_⟩:=(hR.less (hl.trans vW)).ER (hn bT (by simp))
   refine⟨g',⟨fun k v hk=>?_,r1.aV,r1.a7,r1.ay,r1.defers,r1.jb,r1.same⟩⟩;rw[dF]at hk;split at hk
   ·rename_i e
    subst e;cases hk;exact⟨_,hx,r2 sz _ (.inl rfl)⟩
   ·exact r1.env k v hk
  ·cases h
 ·rename_i hs
  split at h
  ·rename_i S1 hc
   cases h;obtain⟨hl,hn⟩:=xm hc;have vW:oQ ({ S with env:=S.env.filter fun p => !(p.1==s) }:St) S:=by
    refine⟨fun k v e=>?_,fun _ _ e=>e,fun _ _ e=>e,rfl⟩;simp only[oo]at e;split at e
    ·cases e
    ·exact e
   obtain⟨x,hx,hr⟩:=hR.env s _ hs;have hz:=qQ hr;obtain⟨g',r1,r2,_⟩:=(hR.less (hl.trans vW)).ER (hn bT (by simp))
   refine⟨g',⟨fun k v hk=>?_,r1.aV,r1.a7,r1.ay,r1.defers,r1.jb,r1.same⟩⟩;rw[dF]at hk;split at hk
   ·rename_i e
    subst e;cases hk;exact⟨_,hx,r2 sz _ hz⟩
   ·exact r1.env k v hk
  ·cases h
 ·cases h;exact⟨g,hR⟩
theorem Pk(hR:R E g S a w){id off bT sz:Nat}(h:S.nB id off bT sz=some S'):∃g',R E g' S' a w:=by
 simp only[St.nB]at h;split at h
 ·rename_i cs eW
  split at h
  ·rename_i mS
   split at h
   ·rename_i S1 hc
    split at h
    ·rename_i Jq Fp
     cases h;obtain⟨hl,hn⟩:=xm hc;have eQ:=hR.less hl;have ZV:Jq=cs:=by
      have:=hl.aV id Jq Fp;rw[eW]at this;exact(Option.some.inj this).symm
     subst ZV;obtain⟨g',r1,r2,r3⟩:=eQ.ER (hn bT (by simp))
     refine⟨g',⟨r1.env,fun i dR hi=>?_,r1.a7,r1.ay,r1.defers,r1.jb,r1.same⟩⟩;rw[dF]at hi;split at hi
     ·rename_i e
      subst e;cases hi;rcases r1.aV id Jq Fp with h0 | ⟨h1,h2,h3,c,e,h4,eT,h5⟩
      ·rw[h0.1]at mS;simp at mS
      refine .inr ⟨h1,h2,h3,c,e,h4,eT,fun j v hj=>?_⟩;rw[List.getElem?_set]at hj;split at hj
      ·rename_i ej
       subst ej;split at hj
       ·cases hj
        obtain⟨_,y,h7,h8⟩:=h5 off _ mS;refine⟨rfl,y,h7,?_⟩;exact r2 sz _ (.inl (nE h8))
       ·cases hj
      ·exact h5 j v hj
     ·exact r1.aV i dR hi
    ·cases h
   ·cases h
  ·cases h;exact⟨g,hR⟩
 ·cases h;exact⟨g,hR⟩
theorem ZW(hR:R E g S a w){id off bT sz:Nat}(h:hY.run S (.nB id off bT sz)=some S'):∃g',R E g' S' a w:=Pk hR h
theorem ZX{X:Cx}{bT:Nat}{v:V}{x:Value}(h:aY X v x):aY X (V.forget bT v) x:=by
 unfold V.forget;split
 ·rename_i f n es
  cases f==bT with
  |false=>exact h
  |true =>
   cases h with
   |plain h _ =>
    refine .plain ?_ (fun _ _ _ e=>by cases e)
    cases h with
    |nil=>exact .nil _ _
    |empty _ _ a cap=>exact .empty _ _ a cap
    |slice _ _ _ b off cap zs hb eu ia hc hv hp hm=>exact .slice _ _ _ b off cap zs hb eu ia hc hv hp hm
 ·exact h
theorem ZY{bT:Nat}{v:V}(h:v.cz=true):(V.forget bT v).cz=true:=by
 unfold V.forget;split
 ·rename_i f n es;cases f==bT<;>rfl
 ·exact h
theorem ZZ(hR:R E g S a w){id back bT sz:Nat}(h:hY.run S (.EE id back bT sz)=some S'):∃g',R E g' S' a w:=by
 simp only[hY.run]at h;split at h
 ·rename_i cs eW
  split at h
  ·refine Pk (g:=g) (S:={ S with aV:=(id,cs.map (V.forget bT))::S.aV.filter fun p => !(p.1==id) }) ⟨hR.env,fun i dR hi=>?_,hR.a7,hR.ay,hR.defers,hR.jb,hR.same⟩ h
   have hi:look i ((id,cs.map (V.forget bT))::S.aV.filter fun p => !(p.1==id))=some dR:=hi;rw[dF]at hi;by_cases l7:id=i
   ·subst l7
    rw[if_pos rfl]at hi;cases hi;rcases hR.aV id cs eW with h0 | ⟨h1,h2,h3,c,e,h4,eT,h5⟩
    ·exact .inl ⟨by rw[h0.1];rfl,h0.2⟩
    refine .inr ⟨h1,h2,h3,c,e,h4,eT,fun j v hj=>?_⟩;rw[List.getElem?_map]at hj;cases hu:cs[j]? with
    |none=>simp[hu]at hj
    |some u =>
     simp only[hu,Option.map_some,Option.some.injEq]at hj;subst hj;obtain⟨q1,y,q2,q3⟩:=h5 j u hu;exact⟨ZY q1,y,q2,ZX q3⟩
   ·rw[if_neg l7,oo]at hi
    split at hi
    ·cases hi
    ·exact hR.aV i dR hi
  ·cases h;exact⟨g,hR⟩
 ·cases h;exact⟨g,hR⟩
theorem Pl{α β:Type}{s:Nat}{f:α→β}:∀{l:List (Nat×α)},look s (l.map fun p=>(p.1,f p.2))=(look s l).map f
 |[]=>rfl
 |(k,v)::l=>by
  simp only[List.map_cons,dF];split
  ·rfl
  ·exact Pl
theorem Z0(hR:R E g S a w){i b:Nat}(h:hY.run S (.iS i b)=some S'):∃g',R E g' S' a w:=by
 simp only[hY.run]at h;split at h
 ·rename_i S1 hc
  obtain⟨hl,hn⟩:=xm hc;have eQ:=hR.less hl;have hn:=hn b (by simp)
  split at h
  ·rename_i cs eW
   cases h;obtain⟨g',r1,r2,r3⟩:=eQ.Fq hn eW;refine⟨g',⟨fun s v hs=>?_,r1.aV,r1.a7,r1.ay,r1.defers,r1.jb,r1.same⟩⟩;have hs:look s (S1.env.map fun p=>(p.1,V.iS i b p.2))=some v:=hs;rw[Pl]at hs;cases hu:look s S1.env with
   |none=>simp[hu]at hs
   |some u =>
    simp only[hu,Option.map_some,Option.some.injEq]at hs;subst hs;obtain⟨x,hx,hr⟩:=eQ.env s u hu;refine⟨x,hx,?_⟩;unfold V.iS;split
    ·rename_i k sz n
     cases hk:k==i with
     |true =>
      have:=eq_of_beq hk;subst this;exact r2 _ _ _ hr
     |false=>exact r3 _ _ hr (hn.env s _ hu)
    ·exact r3 _ _ hr (hn.env s _ hu)
  ·cases h;exact⟨g,eQ⟩
 ·cases h
theorem R.frozen(hR:R E g S a w){id off n:Nat}{sh:Sh}{es:List (List V)}{x:Value}(hr:aY (S.cx g w) (.bO id off n) x)(ko:S.sa sh (.bO id off n)=some es) :
  ∃g',R E g' { S with aV:=S.aV.filter fun p => !(p.1==id) } a w∧aY (S.cx g' w) (.slice none sh.length es) x∧∀v x,aY (S.cx g w) v x→aY (S.cx g' w) v x:=by
 obtain⟨lK,n',he,hlen,tO⟩:=Il hR hr ko;cases he;rcases tO with⟨h0,hz⟩ | ⟨cap,eu,hx,c,e,hh,fy,yy,cn,fU,hm⟩
 ·subst h0
  obtain rfl:=List.length_eq_zero_iff.1 hlen;have vW:oQ ({ S with aV:=S.aV.filter fun p => !(p.1==id) }:St) S:=by
   refine⟨fun _ _ e=>e,fun k v e=>?_,fun _ _ e=>e,rfl⟩;simp only[oo]at e;split at e
   ·cases e
   ·exact e
  refine⟨g,hR.less vW,.plain (by rcases hz with rfl | ⟨q,rfl⟩<;>first|exact .nil _ _|exact .empty _ _ q 0) (fun _ _ _ e=>by cases e),fun v x hx=>hx.mono ⟨Nat.le_refl _,fun _ _ _ _ h=>h,fun _ _=>Nat.le_refl _,Nat.le_refl _,fun _ _=>rfl⟩ fun i=>.inl (il.refl _ i)⟩
 let g':Gh:={ g with m:=cQ g.m (g.κ id) c.size,ow:=cQ g.ow (g.κ id) .none }
 have t:Touch E g S w g' S.a7 S.ay.length w (g.κ id) none none :=
  {os:=rfl,tape:=rfl,output:=rfl,size:=Nat.le_refl _,heap:=fun _ _ _=>rfl,m:=fun b hb=>gd _ _ hb,ow:=fun b hb=>gd _ _ hb,κ:=fun _ _=>rfl,cp:=fun _ _=>rfl,τ:=fun _ _=>rfl,T:=fun _ _=>rfl,
   γ:=fun _ _=>rfl,eG:=Nat.le_refl _,γnew:=fun i a b=>absurd a (by omega),fresh:=.inl fU,gN:=fun p q _ e=>by(have e:cQ g.ow (g.κ id) .none (g.κ id)=.cell p q:=e);rw[dC]at e;exact nomatch e
   lv:=fun i e=>by(have e:cQ g.ow (g.κ id) .none (g.κ id)=.ay i:=e);rw[dC]at e;exact nomatch e
   jQ:=fun _ _ _ h=>h,nZ:=fun _=>by rw[hm];exact Nat.zero_le _ }
 have hk:∀i,il (S.cx g w) ⟨w.heap,g',S.ay.length,S.a7⟩ i:=fun i=>t.keeps hR (fun e=>by cases e) (fun e=>by cases e) (fun _ e=>by rw[cn]at e;cases e)
 have br:g.κ id<w.heap.size:=by
  rcases Nat.lt_or_ge (g.κ id) w.heap.size with h|h
  ·exact h
  ·simp[Array.getElem?_eq_none h]at hh
 refine⟨g',R.mU t hR rfl rfl (fun i=>.inl (hk i)) (fun k v pr=>.inl pr) (fun i dR hi=>?_) (fun f k b hf hb=>.inl ⟨(fun e=>by cases e),fun _ e=>by rw[cn]at e;cases e⟩)
  (fun i o hi=>.inl ⟨hi,fun _=>⟨fun e=>(by rw[cn]at e;cases e),fun _ e=>(by rw[cn]at e;cases e)⟩⟩),?_,fun v x hx=>hx.mono t.le fun i=>.inl (hk i)⟩
 ·have hi:look i (S.aV.filter fun p => !(p.1==id))=some dR:=hi
  rw[oo]at hi;split at hi
  ·cases hi
  ·rename_i ch
   exact .inl ⟨hi,(fun e=>by cases e),fun _ e=>ch (by rw[cn]at e;cases e;rfl)⟩
 ·subst hx
  rw[←hlen];refine .plain (Ac (m:=g'.m) (yy.mono t.le) br (by omega) (fun j y hj=>?_) ?_ _) (fun _ _ _ e=>by cases e)
  ·show cellAt w.heap (g.κ id) _=_
   rw[kM hh];rw[List.getElem?_take]at hj;split at hj
   ·simpa using hj
   ·cases hj
  ·show _≤cQ g.m (g.κ id) c.size (g.κ id)
   rw[dC,hlen,Nat.zero_add];exact fy
theorem Z1(hR:R E g S a w){s:Nat}{sh:Sh}(h:hY.run S (.freeze s sh)=some S'):∃g',R E g' S' a w:=by
 simp only[hY.run]at h;split at h
 ·rename_i id off n hs
  split at h
  ·rename_i es ko
   cases h;obtain⟨x,hx,hr⟩:=hR.env s _ hs;obtain⟨g',r1,r2,_⟩:=hR.frozen hr ko;refine⟨g',⟨fun k v hk=>?_,r1.aV,r1.a7,r1.ay,r1.defers,r1.jb,r1.same⟩⟩;rw[dF]at hk;split at hk
   ·rename_i e
    subst e;cases hk;exact⟨x,hx,r2⟩
   ·exact r1.env k v hk
  ·cases h
 ·cases h;exact⟨g,hR⟩
theorem Z2(hR:R E g S a w){id off:Nat}{sh:Sh}(h:hY.run S (.EF id off sh)=some S'):∃g',R E g' S' a w:=by
 simp only[hY.run]at h;split at h
 ·rename_i cs eW
  split at h
  ·rename_i i s n mS
   split at h
   ·rename_i es ko
    cases jG:i==id with
    |true=>simp[jG]at h
    |false =>
     simp only[jG,cond_false]at h;cases h;have ch:id≠i:=fun e=>by subst e;simp at jG
     obtain⟨_,_,_,c,e,hh,_,hj⟩:=(hR.aV id cs eW).resolve_left (fun h0=>by rw[h0.1]at mS;simp at mS)
     obtain⟨_,y,hy,hr⟩:=hj off _ mS;obtain⟨g',r1,r2,r3⟩:=hR.frozen hr ko;have Fp:look id (S.aV.filter fun p => !(p.1==i))=some cs:=by rw[oo,if_neg ch];exact eW
     refine⟨g',⟨r1.env,fun k dR hk=>?_,r1.a7,r1.ay,r1.defers,r1.jb,r1.same⟩⟩;have hk:look k ((id,cs.set off (.slice none sh.length es))::(S.aV.filter fun p => !(p.1==i)).filter fun p => !(p.1==id))=some dR:=hk;rw[dF]at hk;by_cases kr:id=k
     ·subst kr
      rw[if_pos rfl]at hk;cases hk;obtain⟨h1,h2,h3,c',e',h4,eT,h5⟩:=(r1.aV id cs Fp).resolve_left (fun h0=>by rw[h0.1]at mS;simp at mS)
      refine .inr ?_;have pk:g'.κ id=g.κ id:=by
       have:aY (S.cx g w) (.bA id 0) (.pointer (some ⟨g.κ id,0,none⟩)):=.bA id 0;have h6:=wZ (r3 _ _ this);simp only[Value.pointer.injEq,Option.some.injEq,Addr.mk.injEq]at h6;exact h6.1.symm
      have uY:c'=c:=by
       rw[pk,hh]at h4;cases h4;rfl
      subst uY;refine⟨h1,h2,h3,c',e',h4,eT,fun j v pt=>?_⟩;rw[List.getElem?_set]at pt;split at pt
      ·rename_i ej
       subst ej;split at pt
       ·cases pt
        exact⟨rfl,y,hy,r2⟩
       ·cases pt
      ·exact h5 j v pt
     ·rw[if_neg kr,oo]at hk
      split at hk
      ·cases hk
      ·exact r1.aV k dR hk
   ·cases h
  ·cases h;exact⟨g,hR⟩
 ·cases h;exact⟨g,hR⟩
theorem Pm(hR:R E g S a w){s id sz:Nat}{v:V}(hs:look s S.env=some v)(hz:∀x,aY (S.cx g w) v x→kj x)(h:S.p9 s id sz=some S'):∃g',R E g' S' a w:=by
 unfold St.p9 at h;split at h
 ·rename_i S1 hc
  cases h;obtain⟨hl,hn⟩:=xm hc;obtain⟨x,hx,hr⟩:=hR.env s _ hs;obtain⟨g',r1,_,r2,_⟩:=(hR.less (hl.trans Js)).Jt (hn id (by simp)) 0
  refine⟨g',⟨fun k v hk=>?_,r1.aV,r1.a7,r1.ay,r1.defers,r1.jb,r1.same⟩⟩;replace hk:look k ((s,.bO id sz 0)::S1.env)=some v:=hk;rw[dF]at hk;split at hk
  ·rename_i e;subst e;cases hk;exact⟨x,hx,.qb _ _ (hz x hr) r2⟩
  ·exact r1.env k v hk
 ·cases h
theorem Z3(hR:R E g S a w){s id sz:Nat}(h:hY.run S (.p9 s id sz)=some S'):∃g',R E g' S' a w:=by
 simp only[hY.run]at h;split at h
 ·rename_i hs;exact Pm hR hs (fun x hx=>.inl (nE hx)) h
 ·rename_i hs;exact Pm hR hs (fun x hx=>qQ hx) h
 ·cases h;exact⟨g,hR⟩
theorem Z4(hR:R E g S a w){s:Nat}{sh:Sh}(h:hY.run S (.share s sh)=some S'):∃g',R E g' S' a w:=by
 simp only[hY.run]at h;split at h
 ·rename_i id n len hs
  split at h
  ·rename_i es S1 ko hc
   cases h;obtain⟨hl,hn⟩:=xm hc;have hn:=hn id (by simp)
   have hl:=hl.trans Js;obtain⟨x,hx,hr⟩:=hR.env s _ hs;obtain⟨lK,n',he,hlen,tO⟩:=Il hR hr ko;cases he;have eQ:=hR.less hl;rcases tO with⟨h0,hz⟩ | ⟨cap,eu,Pn,c,e,hh,fy,yy,cn,fU,hm⟩
   ·subst h0
    obtain rfl:=List.length_eq_zero_iff.1 hlen;have AK:R E g { S1 with env:=(s,.dH 0)::S1.env } a w:=⟨fun k v hk=>by
     replace hk:look k ((s,.dH 0)::S1.env)=some v:=hk;rw[dF]at hk;split at hk
     ·rename_i e;subst e;cases hk;exact⟨x,hx,.dH hz⟩
     ·exact eQ.env k v hk,eQ.aV,eQ.a7,eQ.ay,eQ.defers,eQ.jb,eQ.same⟩
    obtain⟨g',r⟩:=Fs (n:=sh.length) AK (s:=s) (v:=.dH 0) (by show look s ((s,.dH 0)::S1.env)=_;rw[dF,if_pos rfl]) (fun x hx=>qQ hx)
    refine⟨g',⟨fun k v hk=>?_,r.aV,r.a7,r.ay,r.defers,r.jb,r.same⟩⟩;refine r.env k v ?_;replace hk:look k ((s,.df S1.ay.length sh.length 0)::S1.env)=some v:=hk;show look k ((s,.df S1.ay.length sh.length 0)::(s,.dH 0)::S1.env)=some v;rw[dF]at hk ⊢;split at hk
    ·rename_i e;rw[if_pos e];exact hk
    ·rename_i e;rw[if_neg e,dF,if_neg e];exact hk
   ·obtain⟨f1,f2⟩:=xj yy
    obtain⟨g',r1,r2⟩:=eQ.Po (id:=id) (n:=sh.length) hn cn fU hm hh Pn eu (us:=es.flatten) (fun j v hv=>by
     obtain⟨q1,y,q2,q3⟩:=f2 j v hv;rw[List.getElem?_take]at q2;split at q2
     ·exact⟨q1,y,by simpa using q2,q3⟩
     ·cases q2)
    refine⟨g',⟨fun k u hk=>?_,r1.aV,r1.a7,r1.ay,r1.defers,r1.jb,r1.same⟩⟩;replace hk:look k ((s,.df S1.ay.length sh.length es.length)::S1.env)=some u:=hk;rw[dF]at hk;split at hk
    ·rename_i e;subst e;cases hk;rw[hlen];exact⟨x,hx,r2⟩
    ·exact r1.env k u hk
  ·cases h
 ·rename_i hs;cases h;exact Fs hR hs (fun x hx=>.inl (nE hx))
 ·rename_i hs;cases h;exact Fs hR hs (fun x hx=>qQ hx)
 ·cases h
theorem R.dead(hR:R E g S a w)(i:Nat):R E g { S with ay:=S.ay.set i (.cells []) } a w:=by
 have hl:(S.ay.set i (aP.cells [])).length=S.ay.length:=by simp
 have lJ:(({ S with ay:=S.ay.set i (.cells []) }:St).cx g w)=S.cx g w:=by simp[St.cx]
 refine⟨by rw[lJ];exact hR.env,by rw[lJ];exact hR.aV,hR.a7,⟨fun k o hk=>?_,fun k o hk=>?_,fun b k ho=>by rw[hl];exact hR.ay.z b k ho⟩,hR.defers,hR.jb,by rw[hl];exact hR.same⟩
 ·rw[hl]
  simp only[List.getElem?_set]at hk;split at hk
  ·split at hk
   ·cases hk;exact .inl rfl
   ·cases hk
  ·exact hR.ay.obj k o hk
 ·simp only[List.getElem?_set]at hk
  split at hk
  ·split at hk
   ·cases hk;exact fun j n es y hj=>by simp at hj
   ·cases hk
  ·exact hR.ay.own k o hk
theorem Pp(hR:R E g S a w){iB Z5:List Sh}{v u:V}{G:List aP}{x:Value}(hr:aY (S.cx g w) v x)(h:St.zY S.ay iB v=some (u,Z5,G)) :
  ∃g',R E g' { S with ay:=G } a w∧aY (({ S with ay:=G }:St).cx g' w) u x∧∀v x,aY (S.cx g w) v x→aY (({ S with ay:=G }:St).cx g' w) v x:=by
 unfold St.zY at h;split at h
 ·rename_i i n len
  split at h
  ·rename_i sh Z6 cs e9
   cases hc:(n==sh.length&&Nat.blt 0 n&&Nat.ble (len*n) cs.length) with
   |false=>simp[hc]at h
   |true =>
    simp only[hc,cond_true]at h;simp only[Bool.and_eq_true,beq_iff_eq]at hc;obtain⟨⟨rfl,gG⟩,hle⟩:=hc;have gG:0<sh.length:=by simpa [Nat.blt_eq] using gG
    have hle:=Nat.le_of_ble_eq_true hle;split at h
    ·rename_i es mF
     cases h;have hlen:es.length=len:=by
      obtain⟨h1,_⟩:=Ij mF;rw[Ik]at h1;exact h1
     have lJ:(({ S with ay:=S.ay.set i (.cells []) }:St).cx g w)=S.cx g w:=by simp[St.cx]
     have hz:len=0→∃g',R E g' { S with ay:=S.ay.set i (.cells []) } a w∧aY (({ S with ay:=S.ay.set i (.cells []) }:St).cx g' w) (.slice none sh.length es) x∧∀v x,aY (S.cx g w) v x→aY (({ S with ay:=S.ay.set i (.cells []) }:St).cx g' w) v x:=fun h0=>by
      subst h0;obtain rfl:=List.length_eq_zero_iff.1 hlen;refine⟨g,hR.dead i,.plain ?_ (fun _ _ _ e=>by cases e),fun v x hx=>by rw[lJ];exact hx⟩
      obtain⟨_,⟨cap,_,e⟩ | ⟨_,e | ⟨q,e⟩⟩⟩:=EK hr
      ·rw[e];exact .empty _ _ _ _
      ·rw[e];exact .nil _ _
      ·rw[e];exact .empty _ _ _ _
     rcases Nat.eq_zero_or_pos len with h0|h0
     ·exact hz h0
     obtain⟨hi,hx⟩:=EK hr;obtain⟨cap,eu,e1⟩:=hx.resolve_right (fun h=>by have:=h.1;omega)
     have ch:cs≠[]:=fun e=>by
      subst e;simp only[List.length_nil,Nat.le_zero,Nat.mul_eq_zero]at hle;omega
     obtain⟨cn,hm,c,e,hh,c9,hj⟩:=(hR.ay.obj i _ e9).resolve_left (fun e=>ch (by cases e;rfl))
     have oc:Le ⟨w.heap,g,S.ay.length,[]⟩ (S.cx g w):=⟨Nat.le_refl _,fun _ _ _ _ h=>h,fun _ _=>Nat.le_refl _,Nat.le_refl _,fun _ _=>rfl⟩;obtain⟨h1,h2⟩:=N5 (X:=S.cx g w) (c:=c) (cs:=cs.map V.jF) (off:=0) (fun j v hv=>by
      rw[List.getElem?_map]at hv;cases Ft:cs[j]? with
      |none=>simp[Ft]at hv
      |some v0 =>
       simp[Ft]at hv;subst hv;have br:j<c.size:=Nat.lt_of_lt_of_le (eC Ft) c9;obtain⟨_,q2,q3⟩:=hj j v0 c[j] Ft (by simp[br])
       exact⟨c[j],by simp[br],Ih (q3.mono oc (fun d=>.inr (q2 d)))⟩) (by simp;exact hle) mF
     simp only[List.drop_zero]at h2
     let g':Gh:={ g with m:=cQ g.m (g.γ i) (len*sh.length),ow:=cQ g.ow (g.γ i) .none }
     have t:Touch E g S w g' S.a7 S.ay.length w (g.γ i) none none :=
      {os:=rfl,tape:=rfl,output:=rfl,size:=Nat.le_refl _,heap:=fun _ _ _=>rfl,m:=fun b hb=>gd _ _ hb,ow:=fun b hb=>gd _ _ hb,κ:=fun _ _=>rfl,cp:=fun _ _=>rfl,
       τ:=fun _ _=>rfl,T:=fun _ _=>rfl,γ:=fun _ _=>rfl,eG:=Nat.le_refl _,γnew:=fun i a b=>absurd a (by omega)
       fresh:=(hR.EY cn).imp (fun z=>z) .inl,gN:=fun p q hb e=>by(have e:cQ g.ow (g.γ i) .none (g.γ i)=.cell p q:=e);rw[dC]at e;cases e
       lv:=fun k e=>by(have e:cQ g.ow (g.γ i) .none (g.γ i)=.ay k:=e);rw[dC]at e;cases e
       jQ:=fun _ _ _ hy=>hy,nZ:=fun _=>by rw[hm];exact Nat.zero_le _ }
     have xn:∀k,il (S.cx g w) ⟨w.heap,g',S.ay.length,S.a7⟩ k:=fun k=>t.keeps hR (fun e=>by cases e) (fun e=>by cases e) (fun _ e=>by rw[cn]at e;cases e)
     have Pq:(({ S with ay:=S.ay.set i (.cells []) }:St).cx g' w)=⟨w.heap,g',S.ay.length,S.a7⟩:=by simp[St.cx]
     refine⟨g',R.BQ t hR rfl (by simp) (fun k=>.inl (xn k)) (fun s v hs=>.inl hs) (fun k dR ho=>.inl ⟨ho,(fun e=>by cases e),fun _ e=>by rw[cn]at e;cases e⟩)
      (fun f k b hf hb=>.inl ⟨(fun e=>by cases e),fun _ e=>by rw[cn]at e;cases e⟩) (fun k o hk h0=>?_),?_,fun v x hx=>by rw[Pq];exact hx.mono t.le fun k=>.inl (xn k)⟩
     ·simp only[List.getElem?_set]at hk
      split at hk
      ·split at hk
       ·cases hk;exact absurd rfl h0
       ·cases hk
      ·rename_i ch
       exact .inl ⟨hk,fun _=>⟨fun e=>ch (by rw[cn]at e;cases e;rfl),fun _ e=>by rw[cn]at e;cases e⟩⟩
     ·rw[Pq,e1,← hlen]
      refine .plain (Ac (m:=g'.m) (h2.mono t.le) (Nat.lt_of_lt_of_le (Al hR e9 (fun e=>ch (by cases e;rfl))) (Nat.le_refl _)) (by omega) (fun j y pq=>?_) ?_ _) (fun _ _ _ e=>by cases e)
      ·show cellAt w.heap (g.γ i) _=_
       rw[kM hh];rw[List.getElem?_take]at pq;split at pq
       ·simpa using pq
       ·cases pq
      ·show _≤cQ g.m (g.γ i) (len*sh.length) (g.γ i)
       rw[dC,hlen,Nat.zero_add];exact Nat.le_refl _
    ·cases h
  ·cases h
 ·cases h;exact⟨g,hR,hr,fun v x hx=>hx⟩
theorem Ju:∀{S:St} {g:Gh} (hR:R E g S a w) {iB:List Sh} {vs us:List V} {G:List aP},tx S.ay iB vs=some (us,G)→∀{xs:List Value},PW (S.cx g w) vs xs →
  ∃g',R E g' { S with ay:=G } a w∧PW (({ S with ay:=G }:St).cx g' w) us xs∧∀v x,aY (S.cx g w) v x→aY (({ S with ay:=G }:St).cx g' w) v x
 |S,g,hR,iB,[],us,G,h,xs,hp=>by
  simp only[tx,Option.some.injEq,Prod.mk.injEq]at h;obtain⟨rfl,rfl⟩:=h;exact⟨g,hR,hp,fun v x hx=>hx⟩
 |S,g,hR,iB,v::vs,us,G,h,xs,hp=>by
  simp only[tx]at h;split at h
  ·rename_i u Pr G1 h1
   split at h
   ·rename_i Z7 G2 h2
    cases h
    match xs,hp.len with
    |x::xs,hl =>
     obtain⟨g1,r1,q1,k1⟩:=Pp hR (hp.at_ 0 v x rfl rfl) h1;obtain⟨g2,r2,q2,k2⟩:=Ju (S:={ S with ay:=G1 }) r1 h2 (xs:=xs) ⟨by simpa using hl,fun j v y hv hy=>k1 v y (hp.at_ (j+1) v y (by simpa using hv) (by simpa using hy))⟩
     refine⟨g2,r2,⟨by simp[q2.len],fun j v y hv hy=>?_⟩,fun v x hx=>k2 v x (k1 v x hx)⟩
     cases j with
     |zero=>simp at hv hy;subst hv;subst hy;exact k2 _ _ q1
     |succ j=>exact q2.at_ j v y (by simpa using hv) (by simpa using hy)
   ·cases h
  ·cases h
theorem Z8(hR:R E g S a w){s:Nat}{iB:List Sh}(h:hY.run S (.EG s iB)=some S'):∃g',R E g' S' a w:=by
 simp only[hY.run]at h;split at h
 ·rename_i cs hs
  split at h
  ·rename_i us G ht
   cases h;obtain⟨x,hx,hr⟩:=hR.env s _ hs;obtain⟨xs,rfl,hl,CA⟩:=oL hr;obtain⟨g',r,q,_⟩:=Ju hR ht (xs:=xs.toList) ⟨by simpa using hl,fun i v y hv hy=>CA i v y hv (by simpa using hy)⟩
   refine⟨g',⟨fun k v hk=>?_,r.aV,r.a7,r.ay,r.defers,r.jb,r.same⟩⟩;replace hk:look k ((s,.agg us)::S.env)=some v:=hk;rw[dF]at hk;split at hk
   ·rename_i e;subst e;cases hk
    exact⟨_,hx,.agg _ _ (by simpa using q.len) (fun i v y hv hy=>q.at_ i v y hv (by simpa using hy))⟩
   ·exact r.env k v hk
  ·cases h
 ·rename_i v _ hs
  split at h
  ·rename_i u Pr G ht
   cases h;obtain⟨x,hx,hr⟩:=hR.env s _ hs;obtain⟨g',r,q,_⟩:=Pp hR hr ht;refine⟨g',⟨fun k v hk=>?_,r.aV,r.a7,r.ay,r.defers,r.jb,r.same⟩⟩;replace hk:look k ((s,u)::S.env)=some v:=hk;rw[dF]at hk;split at hk
   ·rename_i e;subst e;cases hk;exact⟨x,hx,q⟩
   ·exact r.env k v hk
  ·cases h
 ·cases h
theorem Pu:∀{G G':List aP} {iB:List Sh} {vs us:List V},tx G iB vs=some (us,G')→(∀v∈vs,v.cz=true)→∀u∈us,u.cz=true
 |G,G',iB,[],us,h,_=>by simp only[tx,Option.some.injEq,Prod.mk.injEq]at h;obtain⟨rfl,rfl⟩:=h;simp
 |G,G',iB,v::vs,us,h,hv=>by
  simp only[tx]at h;split at h
  ·rename_i u Pr G1 h1
   split at h
   ·rename_i Z7 G2 h2
    cases h;intro z hz;rcases List.mem_cons.1 hz with rfl|hz
    ·unfold St.zY at h1
     split at h1
     ·rename_i i n len
      split at h1
      ·rename_i sh Z6 cs _
       cases hc:(n==sh.length&&Nat.blt 0 n&&Nat.ble (len*n) cs.length) with
       |false=>rw[hc]at h1;cases h1
       |true =>
        rw[hc]at h1;simp only[cond_true]at h1;split at h1
        ·cases h1;rfl
        ·cases h1
      ·cases h1
     ·cases h1;exact hv _ List.mem_cons_self
    ·exact Pu h2 (fun v h=>hv v (List.mem_cons_of_mem _ h)) z hz
   ·cases h
  ·cases h
theorem Z9(hR:R E g S a w){id:Nat}{iB:List Sh}(h:hY.run S (.BM id iB)=some S'):∃g',R E g' S' a w:=by
 simp only[hY.run]at h;split at h
 ·rename_i cs eW
  split at h
  ·rename_i us G ht
   cases h;rcases hR.aV id cs eW with⟨rfl,uL⟩ | ⟨cn,fU,hm,c,e,hh,eT,hj⟩
   ·simp only[tx,Option.some.injEq,Prod.mk.injEq]at ht
    obtain⟨rfl,rfl⟩:=ht;refine⟨g,⟨hR.env,fun i dR hi=>?_,hR.a7,hR.ay,hR.defers,hR.jb,hR.same⟩⟩;replace hi:look i ((id,[])::S.aV.filter fun p => !(p.1==id))=some dR:=hi;rw[dF]at hi;by_cases jG:id=i
    ·subst jG
     rw[if_pos rfl]at hi;cases hi;exact hR.aV id [] eW
    ·rw[if_neg jG,oo]at hi
     split at hi
     ·cases hi
     ·exact hR.aV i dR hi
   ·have hle:=Fu hj
    have EV:(c.toList.take cs.length).length=cs.length:=by simp;omega
    obtain⟨g',r,q,k⟩:=Ju hR ht (xs:=c.toList.take cs.length) ⟨EV.symm,fun i v y hv hy=>by
     obtain⟨_,y',h1,h2⟩:=hj i v hv;rw[List.getElem?_take]at hy;split at hy
     ·have hy:c[i]?=some y:=by simpa using hy
      rw[hy]at h1;cases h1;exact h2
     ·cases hy⟩
    have im:=Pu ht fun v hv=>by
     obtain⟨j,pt⟩:=List.mem_iff_getElem?.1 hv;exact(hj j v pt).1
    have pk:g'.κ id=g.κ id:=by
     have:aY (S.cx g w) (.bA id 0) (.pointer (some ⟨g.κ id,0,none⟩)):=.bA id 0;have h6:=wZ (k _ _ this);simp only[Value.pointer.injEq,Option.some.injEq,Addr.mk.injEq]at h6;exact h6.1.symm
    refine⟨g',⟨r.env,fun i dR hi=>?_,r.a7,r.ay,r.defers,r.jb,r.same⟩⟩;replace hi:look i ((id,us)::S.aV.filter fun p => !(p.1==id))=some dR:=hi;rw[dF]at hi;by_cases jG:id=i
    ·subst jG
     rw[if_pos rfl]at hi;cases hi;rcases r.aV id cs eW with⟨h0,uL⟩ | ⟨h1,h2,h3,c',e',h4,h5,_⟩
     ·subst h0
      have:us=[]:=List.length_eq_zero_iff.1 (by have:=q.len;simpa using this)
      exact .inl ⟨this,uL⟩
     ·rw[pk,hh]at h4
      cases h4;refine .inr ⟨h1,h2,h3,c,e,by rw[pk];exact hh,h5,fun j v hv=>?_⟩
      have oN:j<(c.toList.take cs.length).length:=by rw[←q.len];exact eC hv
      have pq:=List.getElem?_eq_getElem oN;refine⟨im v (List.mem_of_getElem? hv),_,?_,q.at_ j v _ hv pq⟩;rw[List.getElem?_take]at pq;split at pq
      ·simpa using pq
      ·cases pq
    ·rw[if_neg jG,oo]at hi
     split at hi
     ·cases hi
     ·exact r.aV i dR hi
  ·cases h
 ·cases h;exact⟨g,hR⟩
end
end Go.Vm

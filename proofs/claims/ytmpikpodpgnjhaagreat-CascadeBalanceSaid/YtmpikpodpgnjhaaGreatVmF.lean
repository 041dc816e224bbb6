/- The value machine, 15: what lies between the regions. -/
import Derived.Test.YtmpikpodpgnjhaaGreatVmE
namespace Go.Vm
set_option linter.all false
theorem CL{α:Type}{s:Nat}{v:α}{env:List (Nat×α)}:∀{l:List Nat},look s (rV env l)=some v→look s env=some v
 |[],h=>by simp[rV,look]at h
 |k::l,h=>by
  simp only[rV]at h;split at h
  ·rename_i u hu
   rw[dQ]at h;split at h
   ·rename_i e;subst e;cases h;exact hu
   ·exact CL h
  ·exact CL h
section
variable {P:Program} {E:Entry} {g g':Gh} {S S':St} {a:Act} {w w':World} {C:bC}
theorem R.keep(hR:R E g S a w)(k:c9):R E g (S.keep k) a w :=
 hR.sub (fun _ _ h=>CL h) (fun _ _ h=>CL h) (fun _ _ h=>CL h) rfl
theorem w5:∀{ds:List Nat} {S S':St},S.clean ds=some S'→pC S' S∧∀d∈ds,S'.eR d
 |[],S,S',h=>by simp only[St.clean,Option.some.injEq]at h;subst h;exact⟨.refl S,by simp⟩
 |d::ds,S,S',h=>by
  simp only[St.clean]at h;cases hc:((S.env.filter fun p => !(p.1==d)).all (fun p => !p.2.cu d)&&(S.bb.filter fun p => !(p.1==d)).all (fun p=>p.2.all fun v => !v.cI d)) with
  |false=>rw[hc]at h;cases h
  |true =>
   rw[hc]at h;simp only[cond_true]at h;simp only[Bool.and_eq_true,List.all_eq_true,Bool.not_eq_true']at hc;obtain⟨h1,h2⟩:=w5 h;have vv:pC ({ env:=S.env.filter fun p => !(p.1==d),bb:=S.bb.filter fun p => !(p.1==d),bm:=S.bm.filter fun p => !(p.1==d),az:=S.az }:St) S:=by
    refine⟨fun s v e=>?_,fun s v e=>?_,fun s v e=>?_,rfl⟩
    all_goals
     simp only[oO]at e;split at e
     ·cases e
     ·exact e
   refine⟨h1.trans vv,fun x hx=>?_⟩;rcases List.mem_cons.1 hx with e|e
   ·subst e
    refine h1.eR ⟨fun s v hs=>?_,fun id cs ho=>?_,?_,?_⟩
    ·exact hc.1 (s,v) (r9 hs)
    ·exact fun v hv=>by have:=hc.2 (id,cs) (r9 ho);simp only[List.all_eq_true,Bool.not_eq_true']at this;exact this v hv
    ·show look x (S.bb.filter _)=none;rw[oO,if_pos rfl]
    ·show look x (S.bm.filter _)=none;rw[oO,if_pos rfl]
   ·exact h2 x e
theorem Yd(hR:R E g S a w){s cf sz:Nat}(h:iO.run S (.norm s cf sz)=some S'):∃g',R E g' S' a w:=by
 simp only[iO.run]at h;split at h
 ·rename_i hs
  split at h
  ·rename_i S1 hc
   cases h;obtain⟨hl,hn⟩:=w5 hc;have vv:pC ({ S with env:=S.env.filter fun p => !(p.1==s) }:St) S:=by
    refine⟨fun k v e=>?_,fun _ _ e=>e,fun _ _ e=>e,rfl⟩;simp only[oO]at e;split at e
    ·cases e
    ·exact e
   obtain⟨x,hx,hr⟩:=hR.env s _ hs;have:=nV hr;subst this;obtain⟨g',r1,r2,_⟩:=(hR.less (hl.trans vv)).ET (hn cf (by simp))
   refine⟨g',⟨fun k v hk=>?_,r1.bb,r1.bm,r1.az,r1.defers,r1.jy,r1.same⟩⟩;rw[dQ]at hk;split at hk
   ·rename_i e
    subst e;cases hk;exact⟨_,hx,r2 sz _ (.inl rfl)⟩
   ·exact r1.env k v hk
  ·cases h
 ·rename_i hs
  split at h
  ·rename_i S1 hc
   cases h;obtain⟨hl,hn⟩:=w5 hc;have vv:pC ({ S with env:=S.env.filter fun p => !(p.1==s) }:St) S:=by
    refine⟨fun k v e=>?_,fun _ _ e=>e,fun _ _ e=>e,rfl⟩;simp only[oO]at e;split at e
    ·cases e
    ·exact e
   obtain⟨x,hx,hr⟩:=hR.env s _ hs;have hz:=rh hr;obtain⟨g',r1,r2,_⟩:=(hR.less (hl.trans vv)).ET (hn cf (by simp))
   refine⟨g',⟨fun k v hk=>?_,r1.bb,r1.bm,r1.az,r1.defers,r1.jy,r1.same⟩⟩;rw[dQ]at hk;split at hk
   ·rename_i e
    subst e;cases hk;exact⟨_,hx,r2 sz _ hz⟩
   ·exact r1.env k v hk
  ·cases h
 ·cases h;exact⟨g,hR⟩
theorem Pq(hR:R E g S a w){id off cf sz:Nat}(h:S.kE id off cf sz=some S'):∃g',R E g' S' a w:=by
 simp only[St.kE]at h;split at h
 ·rename_i cs fx
  split at h
  ·rename_i nb
   split at h
   ·rename_i S1 hc
    split at h
    ·rename_i Jy Fu
     cases h;obtain⟨hl,hn⟩:=w5 hc;have fm:=hR.less hl;have Ye:Jy=cs:=by
      have:=hl.bb id Jy Fu;rw[fx]at this;exact(Option.some.inj this).symm
     subst Ye;obtain⟨g',r1,r2,r3⟩:=fm.ET (hn cf (by simp))
     refine⟨g',⟨r1.env,fun i ek hi=>?_,r1.bm,r1.az,r1.defers,r1.jy,r1.same⟩⟩;rw[dQ]at hi;split at hi
     ·rename_i e
      subst e;cases hi;rcases r1.bb id Jy Fu with h0 | ⟨h1,h2,h3,c,e,h4,fH,h5⟩
      ·rw[h0.1]at nb;simp at nb
      refine .inr ⟨h1,h2,h3,c,e,h4,fH,fun j v hj=>?_⟩;rw[List.getElem?_set]at hj;split at hj
      ·rename_i ej
       subst ej;split at hj
       ·cases hj
        obtain⟨_,y,h7,h8⟩:=h5 off _ nb;refine⟨rfl,y,h7,?_⟩;exact r2 sz _ (.inl (nV h8))
       ·cases hj
      ·exact h5 j v hj
     ·exact r1.bb i ek hi
    ·cases h
   ·cases h
  ·cases h;exact⟨g,hR⟩
 ·cases h;exact⟨g,hR⟩
theorem Yf(hR:R E g S a w){id off cf sz:Nat}(h:iO.run S (.kE id off cf sz)=some S'):∃g',R E g' S' a w:=Pq hR h
theorem Yg{X:Cx}{cf:Nat}{v:V}{x:Value}(h:bj X v x):bj X (V.forget cf v) x:=by
 unfold V.forget;split
 ·rename_i f n es
  cases f==cf with
  |false=>exact h
  |true =>
   cases h with
   |plain h _ =>
    refine .plain ?_ (fun _ _ _ e=>by cases e)
    cases h with
    |nil=>exact .nil _ _
    |empty _ _ a cap=>exact .empty _ _ a cap
    |slice _ _ _ b off cap zs hb eP iI hc hv hp hm=>exact .slice _ _ _ b off cap zs hb eP iI hc hv hp hm
 ·exact h
theorem Yh{cf:Nat}{v:V}(h:v.cM=true):(V.forget cf v).cM=true:=by
 unfold V.forget;split
 ·rename_i f n es;cases f==cf<;>rfl
 ·exact h
theorem Yi(hR:R E g S a w){id back cf sz:Nat}(h:iO.run S (.Ih id back cf sz)=some S'):∃g',R E g' S' a w:=by
 simp only[iO.run]at h;split at h
 ·rename_i cs fx
  split at h
  ·refine Pq (g:=g) (S:={ S with bb:=(id,cs.map (V.forget cf))::S.bb.filter fun p => !(p.1==id) }) ⟨hR.env,fun i ek hi=>?_,hR.bm,hR.az,hR.defers,hR.jy,hR.same⟩ h
   have hi:look i ((id,cs.map (V.forget cf))::S.bb.filter fun p => !(p.1==id))=some ek:=hi;rw[dQ]at hi;by_cases mo:id=i
   ·subst mo
    rw[if_pos rfl]at hi;cases hi;rcases hR.bb id cs fx with h0 | ⟨h1,h2,h3,c,e,h4,fH,h5⟩
    ·exact .inl ⟨by rw[h0.1];rfl,h0.2⟩
    refine .inr ⟨h1,h2,h3,c,e,h4,fH,fun j v hj=>?_⟩;rw[List.getElem?_map]at hj;cases hu:cs[j]? with
    |none=>simp[hu]at hj
    |some u =>
     simp only[hu,Option.map_some,Option.some.injEq]at hj;subst hj;obtain⟨q1,y,q2,q3⟩:=h5 j u hu;exact⟨Yh q1,y,q2,Yg q3⟩
   ·rw[if_neg mo,oO]at hi
    split at hi
    ·cases hi
    ·exact hR.bb i ek hi
  ·cases h;exact⟨g,hR⟩
 ·cases h;exact⟨g,hR⟩
theorem Pr{α β:Type}{s:Nat}{f:α→β}:∀{l:List (Nat×α)},look s (l.map fun p=>(p.1,f p.2))=(look s l).map f
 |[]=>rfl
 |(k,v)::l=>by
  simp only[List.map_cons,dQ];split
  ·rfl
  ·exact Pr
theorem Yj(hR:R E g S a w){i b:Nat}(h:iO.run S (.ic i b)=some S'):∃g',R E g' S' a w:=by
 simp only[iO.run]at h;split at h
 ·rename_i S1 hc
  obtain⟨hl,hn⟩:=w5 hc;have fm:=hR.less hl;have hn:=hn b (by simp)
  split at h
  ·rename_i cs fx
   cases h;obtain⟨g',r1,r2,r3⟩:=fm.Fv hn fx;refine⟨g',⟨fun s v hs=>?_,r1.bb,r1.bm,r1.az,r1.defers,r1.jy,r1.same⟩⟩;have hs:look s (S1.env.map fun p=>(p.1,V.ic i b p.2))=some v:=hs;rw[Pr]at hs;cases hu:look s S1.env with
   |none=>simp[hu]at hs
   |some u =>
    simp only[hu,Option.map_some,Option.some.injEq]at hs;subst hs;obtain⟨x,hx,hr⟩:=fm.env s u hu;refine⟨x,hx,?_⟩;unfold V.ic;split
    ·rename_i k sz n
     cases hk:k==i with
     |true =>
      have:=eq_of_beq hk;subst this;exact r2 _ _ _ hr
     |false=>exact r3 _ _ hr (hn.env s _ hu)
    ·exact r3 _ _ hr (hn.env s _ hu)
  ·cases h;exact⟨g,fm⟩
 ·cases h
theorem R.frozen(hR:R E g S a w){id off n:Nat}{sh:Sh}{es:List (List V)}{x:Value}(hr:bj (S.cx g w) (.cb id off n) x)(kK:S.rS sh (.cb id off n)=some es) :
  ∃g',R E g' { S with bb:=S.bb.filter fun p => !(p.1==id) } a w∧bj (S.cx g' w) (.slice none sh.length es) x∧∀v x,bj (S.cx g w) v x→bj (S.cx g' w) v x:=by
 obtain⟨lX,n',he,hlen,tr⟩:=Ir hR hr kK;cases he;rcases tr with⟨h0,hz⟩ | ⟨cap,eP,hx,c,e,hh,fX,xR,cJ,gG,hm⟩
 ·subst h0
  obtain rfl:=List.length_eq_zero_iff.1 hlen;have vv:pC ({ S with bb:=S.bb.filter fun p => !(p.1==id) }:St) S:=by
   refine⟨fun _ _ e=>e,fun k v e=>?_,fun _ _ e=>e,rfl⟩;simp only[oO]at e;split at e
   ·cases e
   ·exact e
  refine⟨g,hR.less vv,.plain (by rcases hz with rfl | ⟨q,rfl⟩<;>first|exact .nil _ _|exact .empty _ _ q 0) (fun _ _ _ e=>by cases e),fun v x hx=>hx.mono ⟨Nat.le_refl _,fun _ _ _ _ h=>h,fun _ _=>Nat.le_refl _,Nat.le_refl _,fun _ _=>rfl⟩ fun i=>.inl (iP.refl _ i)⟩
 let g':Gh:={ g with m:=c7 g.m (g.κ id) c.size,ow:=c7 g.ow (g.κ id) .none }
 have t:Touch E g S w g' S.bm S.az.length w (g.κ id) none none :=
  {os:=rfl,tape:=rfl,output:=rfl,size:=Nat.le_refl _,heap:=fun _ _ _=>rfl,m:=fun b hb=>gP _ _ hb,ow:=fun b hb=>gP _ _ hb,κ:=fun _ _=>rfl,cp:=fun _ _=>rfl,τ:=fun _ _=>rfl,T:=fun _ _=>rfl,
   γ:=fun _ _=>rfl,fb:=Nat.le_refl _,γnew:=fun i a b=>absurd a (by omega),fresh:=.inl gG,ig:=fun p q _ e=>by(have e:c7 g.ow (g.κ id) .none (g.κ id)=.cell p q:=e);rw[dP]at e;exact nomatch e
   lv:=fun i e=>by(have e:c7 g.ow (g.κ id) .none (g.κ id)=.az i:=e);rw[dP]at e;exact nomatch e
   jk:=fun _ _ _ h=>h,oC:=fun _=>by rw[hm];exact Nat.zero_le _ }
 have hk:∀i,iP (S.cx g w) ⟨w.heap,g',S.az.length,S.bm⟩ i:=fun i=>t.keeps hR (fun e=>by cases e) (fun e=>by cases e) (fun _ e=>by rw[cJ]at e;cases e)
 have bG:g.κ id<w.heap.size:=by
  rcases Nat.lt_or_ge (g.κ id) w.heap.size with h|h
  ·exact h
  ·simp[Array.getElem?_eq_none h]at hh
 refine⟨g',R.nf t hR rfl rfl (fun i=>.inl (hk i)) (fun k v pP=>.inl pP) (fun i ek hi=>?_) (fun f k b hf hb=>.inl ⟨(fun e=>by cases e),fun _ e=>by rw[cJ]at e;cases e⟩)
  (fun i o hi=>.inl ⟨hi,fun _=>⟨fun e=>(by rw[cJ]at e;cases e),fun _ e=>(by rw[cJ]at e;cases e)⟩⟩),?_,fun v x hx=>hx.mono t.le fun i=>.inl (hk i)⟩
 ·have hi:look i (S.bb.filter fun p => !(p.1==id))=some ek:=hi
  rw[oO]at hi;split at hi
  ·cases hi
  ·rename_i cF
   exact .inl ⟨hi,(fun e=>by cases e),fun _ e=>cF (by rw[cJ]at e;cases e;rfl)⟩
 ·subst hx
  rw[←hlen];refine .plain (Ad (m:=g'.m) (xR.mono t.le) bG (by omega) (fun j y hj=>?_) ?_ _) (fun _ _ _ e=>by cases e)
  ·show cellAt w.heap (g.κ id) _=_
   rw[lg hh];rw[List.getElem?_take]at hj;split at hj
   ·simpa using hj
   ·cases hj
  ·show _≤c7 g.m (g.κ id) c.size (g.κ id)
   rw[dP,hlen,Nat.zero_add];exact fX
theorem Yk(hR:R E g S a w){s:Nat}{sh:Sh}(h:iO.run S (.freeze s sh)=some S'):∃g',R E g' S' a w:=by
 simp only[iO.run]at h;split at h
 ·rename_i id off n hs
  split at h
  ·rename_i es kK
   cases h;obtain⟨x,hx,hr⟩:=hR.env s _ hs;obtain⟨g',r1,r2,_⟩:=hR.frozen hr kK;refine⟨g',⟨fun k v hk=>?_,r1.bb,r1.bm,r1.az,r1.defers,r1.jy,r1.same⟩⟩;rw[dQ]at hk;split at hk
   ·rename_i e
    subst e;cases hk;exact⟨x,hx,r2⟩
   ·exact r1.env k v hk
  ·cases h
 ·cases h;exact⟨g,hR⟩
theorem Yl(hR:R E g S a w){id off:Nat}{sh:Sh}(h:iO.run S (.zX id off sh)=some S'):∃g',R E g' S' a w:=by
 simp only[iO.run]at h;split at h
 ·rename_i cs fx
  split at h
  ·rename_i i s n nb
   split at h
   ·rename_i es kK
    cases j9:i==id with
    |true=>simp[j9]at h
    |false =>
     simp only[j9,cond_false]at h;cases h;have cF:id≠i:=fun e=>by subst e;simp at j9
     obtain⟨_,_,_,c,e,hh,_,hj⟩:=(hR.bb id cs fx).resolve_left (fun h0=>by rw[h0.1]at nb;simp at nb)
     obtain⟨_,y,hy,hr⟩:=hj off _ nb;obtain⟨g',r1,r2,r3⟩:=hR.frozen hr kK;have Fu:look id (S.bb.filter fun p => !(p.1==i))=some cs:=by rw[oO,if_neg cF];exact fx
     refine⟨g',⟨r1.env,fun k ek hk=>?_,r1.bm,r1.az,r1.defers,r1.jy,r1.same⟩⟩;have hk:look k ((id,cs.set off (.slice none sh.length es))::(S.bb.filter fun p => !(p.1==i)).filter fun p => !(p.1==id))=some ek:=hk;rw[dQ]at hk;by_cases kL:id=k
     ·subst kL
      rw[if_pos rfl]at hk;cases hk;obtain⟨h1,h2,h3,c',e',h4,fH,h5⟩:=(r1.bb id cs Fu).resolve_left (fun h0=>by rw[h0.1]at nb;simp at nb)
      refine .inr ?_;have pM:g'.κ id=g.κ id:=by
       have:bj (S.cx g w) (.bK id 0) (.pointer (some ⟨g.κ id,0,none⟩)):=.bK id 0;have h6:=wG (r3 _ _ this);simp only[Value.pointer.injEq,Option.some.injEq,Addr.mk.injEq]at h6;exact h6.1.symm
      have uF:c'=c:=by
       rw[pM,hh]at h4;cases h4;rfl
      subst uF;refine⟨h1,h2,h3,c',e',h4,fH,fun j v pQ=>?_⟩;rw[List.getElem?_set]at pQ;split at pQ
      ·rename_i ej
       subst ej;split at pQ
       ·cases pQ
        exact⟨rfl,y,hy,r2⟩
       ·cases pQ
      ·exact h5 j v pQ
     ·rw[if_neg kL,oO]at hk
      split at hk
      ·cases hk
      ·exact r1.bb k ek hk
   ·cases h
  ·cases h;exact⟨g,hR⟩
 ·cases h;exact⟨g,hR⟩
theorem Pu(hR:R E g S a w){s id sz:Nat}{v:V}(hs:look s S.env=some v)(hz:∀x,bj (S.cx g w) v x→kG x)(h:S.ov s id sz=some S'):∃g',R E g' S' a w:=by
 unfold St.ov at h;split at h
 ·rename_i S1 hc
  cases h;obtain⟨hl,hn⟩:=w5 hc;obtain⟨x,hx,hr⟩:=hR.env s _ hs;obtain⟨g',r1,_,r2,_⟩:=(hR.less (hl.trans JA)).JB (hn id (by simp)) 0
  refine⟨g',⟨fun k v hk=>?_,r1.bb,r1.bm,r1.az,r1.defers,r1.jy,r1.same⟩⟩;replace hk:look k ((s,.cb id sz 0)::S1.env)=some v:=hk;rw[dQ]at hk;split at hk
  ·rename_i e;subst e;cases hk;exact⟨x,hx,.qo _ _ (hz x hr) r2⟩
  ·exact r1.env k v hk
 ·cases h
theorem Ym(hR:R E g S a w){s id sz:Nat}(h:iO.run S (.ov s id sz)=some S'):∃g',R E g' S' a w:=by
 simp only[iO.run]at h;split at h
 ·rename_i hs;exact Pu hR hs (fun x hx=>.inl (nV hx)) h
 ·rename_i hs;exact Pu hR hs (fun x hx=>rh hx) h
 ·cases h;exact⟨g,hR⟩
theorem Yn(hR:R E g S a w){s:Nat}{sh:Sh}(h:iO.run S (.share s sh)=some S'):∃g',R E g' S' a w:=by
 simp only[iO.run]at h;split at h
 ·rename_i id n len hs
  split at h
  ·rename_i es S1 kK hc
   cases h;obtain⟨hl,hn⟩:=w5 hc;have hn:=hn id (by simp)
   have hl:=hl.trans JA;obtain⟨x,hx,hr⟩:=hR.env s _ hs;obtain⟨lX,n',he,hlen,tr⟩:=Ir hR hr kK;cases he;have fm:=hR.less hl;rcases tr with⟨h0,hz⟩ | ⟨cap,eP,Pv,c,e,hh,fX,xR,cJ,gG,hm⟩
   ·subst h0
    obtain rfl:=List.length_eq_zero_iff.1 hlen;have AH:R E g { S1 with env:=(s,.dW 0)::S1.env } a w:=⟨fun k v hk=>by
     replace hk:look k ((s,.dW 0)::S1.env)=some v:=hk;rw[dQ]at hk;split at hk
     ·rename_i e;subst e;cases hk;exact⟨x,hx,.dW hz⟩
     ·exact fm.env k v hk,fm.bb,fm.bm,fm.az,fm.defers,fm.jy,fm.same⟩
    obtain⟨g',r⟩:=Fw (n:=sh.length) AH (s:=s) (v:=.dW 0) (by show look s ((s,.dW 0)::S1.env)=_;rw[dQ,if_pos rfl]) (fun x hx=>rh hx)
    refine⟨g',⟨fun k v hk=>?_,r.bb,r.bm,r.az,r.defers,r.jy,r.same⟩⟩;refine r.env k v ?_;replace hk:look k ((s,.dB S1.az.length sh.length 0)::S1.env)=some v:=hk;show look k ((s,.dB S1.az.length sh.length 0)::(s,.dW 0)::S1.env)=some v;rw[dQ]at hk ⊢;split at hk
    ·rename_i e;rw[if_pos e];exact hk
    ·rename_i e;rw[if_neg e,dQ,if_neg e];exact hk
   ·obtain⟨f1,f2⟩:=wX xR
    obtain⟨g',r1,r2⟩:=fm.Pw (id:=id) (n:=sh.length) hn cJ gG hm hh Pv eP (us:=es.flatten) (fun j v hv=>by
     obtain⟨q1,y,q2,q3⟩:=f2 j v hv;rw[List.getElem?_take]at q2;split at q2
     ·exact⟨q1,y,by simpa using q2,q3⟩
     ·cases q2)
    refine⟨g',⟨fun k u hk=>?_,r1.bb,r1.bm,r1.az,r1.defers,r1.jy,r1.same⟩⟩;replace hk:look k ((s,.dB S1.az.length sh.length es.length)::S1.env)=some u:=hk;rw[dQ]at hk;split at hk
    ·rename_i e;subst e;cases hk;rw[hlen];exact⟨x,hx,r2⟩
    ·exact r1.env k u hk
  ·cases h
 ·rename_i hs;cases h;exact Fw hR hs (fun x hx=>.inl (nV hx))
 ·rename_i hs;cases h;exact Fw hR hs (fun x hx=>rh hx)
 ·cases h
theorem R.dead(hR:R E g S a w)(i:Nat):R E g { S with az:=S.az.set i (.cells []) } a w:=by
 have hl:(S.az.set i (aW.cells [])).length=S.az.length:=by simp
 have lU:(({ S with az:=S.az.set i (.cells []) }:St).cx g w)=S.cx g w:=by simp[St.cx]
 refine⟨by rw[lU];exact hR.env,by rw[lU];exact hR.bb,hR.bm,⟨fun k o hk=>?_,fun k o hk=>?_,fun b k ho=>by rw[hl];exact hR.az.z b k ho⟩,hR.defers,hR.jy,by rw[hl];exact hR.same⟩
 ·rw[hl]
  simp only[List.getElem?_set]at hk;split at hk
  ·split at hk
   ·cases hk;exact .inl rfl
   ·cases hk
  ·exact hR.az.obj k o hk
 ·simp only[List.getElem?_set]at hk
  split at hk
  ·split at hk
   ·cases hk;exact fun j n es y hj=>by simp at hj
   ·cases hk
  ·exact hR.az.own k o hk
theorem Px(hR:R E g S a w){iY Yo:List Sh}{v u:V}{G:List aW}{x:Value}(hr:bj (S.cx g w) v x)(h:St.zZ S.az iY v=some (u,Yo,G)) :
  ∃g',R E g' { S with az:=G } a w∧bj (({ S with az:=G }:St).cx g' w) u x∧∀v x,bj (S.cx g w) v x→bj (({ S with az:=G }:St).cx g' w) v x:=by
 unfold St.zZ at h;split at h
 ·rename_i i n len
  split at h
  ·rename_i sh Yp cs fE
   cases hc:(n==sh.length&&Nat.blt 0 n&&Nat.ble (len*n) cs.length) with
   |false=>simp[hc]at h
   |true =>
    simp only[hc,cond_true]at h;simp only[Bool.and_eq_true,beq_iff_eq]at hc;obtain⟨⟨rfl,hH⟩,hle⟩:=hc;have hH:0<sh.length:=by simpa [Nat.blt_eq] using hH
    have hle:=Nat.le_of_ble_eq_true hle;split at h
    ·rename_i es mL
     cases h;have hlen:es.length=len:=by
      obtain⟨h1,_⟩:=Ip mL;rw[Iq]at h1;exact h1
     have lU:(({ S with az:=S.az.set i (.cells []) }:St).cx g w)=S.cx g w:=by simp[St.cx]
     have hz:len=0→∃g',R E g' { S with az:=S.az.set i (.cells []) } a w∧bj (({ S with az:=S.az.set i (.cells []) }:St).cx g' w) (.slice none sh.length es) x∧∀v x,bj (S.cx g w) v x→bj (({ S with az:=S.az.set i (.cells []) }:St).cx g' w) v x:=fun h0=>by
      subst h0;obtain rfl:=List.length_eq_zero_iff.1 hlen;refine⟨g,hR.dead i,.plain ?_ (fun _ _ _ e=>by cases e),fun v x hx=>by rw[lU];exact hx⟩
      obtain⟨_,⟨cap,_,e⟩ | ⟨_,e | ⟨q,e⟩⟩⟩:=EM hr
      ·rw[e];exact .empty _ _ _ _
      ·rw[e];exact .nil _ _
      ·rw[e];exact .empty _ _ _ _
     rcases Nat.eq_zero_or_pos len with h0|h0
     ·exact hz h0
     obtain⟨hi,hx⟩:=EM hr;obtain⟨cap,eP,e1⟩:=hx.resolve_right (fun h=>by have:=h.1;omega)
     have cF:cs≠[]:=fun e=>by
      subst e;simp only[List.length_nil,Nat.le_zero,Nat.mul_eq_zero]at hle;omega
     obtain⟨cJ,hm,c,e,hh,dD,hj⟩:=(hR.az.obj i _ fE).resolve_left (fun e=>cF (by cases e;rfl))
     have oH:Le ⟨w.heap,g,S.az.length,[]⟩ (S.cx g w):=⟨Nat.le_refl _,fun _ _ _ _ h=>h,fun _ _=>Nat.le_refl _,Nat.le_refl _,fun _ _=>rfl⟩;obtain⟨h1,h2⟩:=Oa (X:=S.cx g w) (c:=c) (cs:=cs.map V.j7) (off:=0) (fun j v hv=>by
      rw[List.getElem?_map]at hv;cases Fx:cs[j]? with
      |none=>simp[Fx]at hv
      |some v0 =>
       simp[Fx]at hv;subst hv;have bG:j<c.size:=Nat.lt_of_lt_of_le (eZ Fx) dD;obtain⟨_,q2,q3⟩:=hj j v0 c[j] Fx (by simp[bG])
       exact⟨c[j],by simp[bG],Im (q3.mono oH (fun d=>.inr (q2 d)))⟩) (by simp;exact hle) mL
     simp only[List.drop_zero]at h2
     let g':Gh:={ g with m:=c7 g.m (g.γ i) (len*sh.length),ow:=c7 g.ow (g.γ i) .none }
     have t:Touch E g S w g' S.bm S.az.length w (g.γ i) none none :=
      {os:=rfl,tape:=rfl,output:=rfl,size:=Nat.le_refl _,heap:=fun _ _ _=>rfl,m:=fun b hb=>gP _ _ hb,ow:=fun b hb=>gP _ _ hb,κ:=fun _ _=>rfl,cp:=fun _ _=>rfl,
       τ:=fun _ _=>rfl,T:=fun _ _=>rfl,γ:=fun _ _=>rfl,fb:=Nat.le_refl _,γnew:=fun i a b=>absurd a (by omega)
       fresh:=(hR.ahl cJ).imp (fun z=>z) .inl,ig:=fun p q hb e=>by(have e:c7 g.ow (g.γ i) .none (g.γ i)=.cell p q:=e);rw[dP]at e;cases e
       lv:=fun k e=>by(have e:c7 g.ow (g.γ i) .none (g.γ i)=.az k:=e);rw[dP]at e;cases e
       jk:=fun _ _ _ hy=>hy,oC:=fun _=>by rw[hm];exact Nat.zero_le _ }
     have w6:∀k,iP (S.cx g w) ⟨w.heap,g',S.az.length,S.bm⟩ k:=fun k=>t.keeps hR (fun e=>by cases e) (fun e=>by cases e) (fun _ e=>by rw[cJ]at e;cases e)
     have Py:(({ S with az:=S.az.set i (.cells []) }:St).cx g' w)=⟨w.heap,g',S.az.length,S.bm⟩:=by simp[St.cx]
     refine⟨g',R.B1 t hR rfl (by simp) (fun k=>.inl (w6 k)) (fun s v hs=>.inl hs) (fun k ek ho=>.inl ⟨ho,(fun e=>by cases e),fun _ e=>by rw[cJ]at e;cases e⟩)
      (fun f k b hf hb=>.inl ⟨(fun e=>by cases e),fun _ e=>by rw[cJ]at e;cases e⟩) (fun k o hk h0=>?_),?_,fun v x hx=>by rw[Py];exact hx.mono t.le fun k=>.inl (w6 k)⟩
     ·simp only[List.getElem?_set]at hk
      split at hk
      ·split at hk
       ·cases hk;exact absurd rfl h0
       ·cases hk
      ·rename_i cF
       exact .inl ⟨hk,fun _=>⟨fun e=>cF (by rw[cJ]at e;cases e;rfl),fun _ e=>by rw[cJ]at e;cases e⟩⟩
     ·rw[Py,e1,← hlen]
      refine .plain (Ad (m:=g'.m) (h2.mono t.le) (Nat.lt_of_lt_of_le (Al hR fE (fun e=>cF (by cases e;rfl))) (Nat.le_refl _)) (by omega) (fun j y pO=>?_) ?_ _) (fun _ _ _ e=>by cases e)
      ·show cellAt w.heap (g.γ i) _=_
       rw[lg hh];rw[List.getElem?_take]at pO;split at pO
       ·simpa using pO
       ·cases pO
      ·show _≤c7 g.m (g.γ i) (len*sh.length) (g.γ i)
       rw[dP,hlen,Nat.zero_add];exact Nat.le_refl _
    ·cases h
  ·cases h
 ·cases h;exact⟨g,hR,hr,fun v x hx=>hx⟩
theorem JC:∀{S:St} {g:Gh} (hR:R E g S a w) {iY:List Sh} {vs us:List V} {G:List aW},s7 S.az iY vs=some (us,G)→∀{xs:List Value},PW (S.cx g w) vs xs →
  ∃g',R E g' { S with az:=G } a w∧PW (({ S with az:=G }:St).cx g' w) us xs∧∀v x,bj (S.cx g w) v x→bj (({ S with az:=G }:St).cx g' w) v x
 |S,g,hR,iY,[],us,G,h,xs,hp=>by
  simp only[s7,Option.some.injEq,Prod.mk.injEq]at h;obtain⟨rfl,rfl⟩:=h;exact⟨g,hR,hp,fun v x hx=>hx⟩
 |S,g,hR,iY,v::vs,us,G,h,xs,hp=>by
  simp only[s7]at h;split at h
  ·rename_i u Pz G1 h1
   split at h
   ·rename_i Yq G2 h2
    cases h
    match xs,hp.len with
    |x::xs,hl =>
     obtain⟨g1,r1,q1,k1⟩:=Px hR (hp.at_ 0 v x rfl rfl) h1;obtain⟨g2,r2,q2,k2⟩:=JC (S:={ S with az:=G1 }) r1 h2 (xs:=xs) ⟨by simpa using hl,fun j v y hv hy=>k1 v y (hp.at_ (j+1) v y (by simpa using hv) (by simpa using hy))⟩
     refine⟨g2,r2,⟨by simp[q2.len],fun j v y hv hy=>?_⟩,fun v x hx=>k2 v x (k1 v x hx)⟩
     cases j with
     |zero=>simp at hv hy;subst hv;subst hy;exact k2 _ _ q1
     |succ j=>exact q2.at_ j v y (by simpa using hv) (by simpa using hy)
   ·cases h
  ·cases h
theorem Yr(hR:R E g S a w){s:Nat}{iY:List Sh}(h:iO.run S (.Ii s iY)=some S'):∃g',R E g' S' a w:=by
 simp only[iO.run]at h;split at h
 ·rename_i cs hs
  split at h
  ·rename_i us G ht
   cases h;obtain⟨x,hx,hr⟩:=hR.env s _ hs;obtain⟨xs,rfl,hl,CM⟩:=pj hr;obtain⟨g',r,q,_⟩:=JC hR ht (xs:=xs.toList) ⟨by simpa using hl,fun i v y hv hy=>CM i v y hv (by simpa using hy)⟩
   refine⟨g',⟨fun k v hk=>?_,r.bb,r.bm,r.az,r.defers,r.jy,r.same⟩⟩;replace hk:look k ((s,.agg us)::S.env)=some v:=hk;rw[dQ]at hk;split at hk
   ·rename_i e;subst e;cases hk
    exact⟨_,hx,.agg _ _ (by simpa using q.len) (fun i v y hv hy=>q.at_ i v y hv (by simpa using hy))⟩
   ·exact r.env k v hk
  ·cases h
 ·rename_i v _ hs
  split at h
  ·rename_i u Pz G ht
   cases h;obtain⟨x,hx,hr⟩:=hR.env s _ hs;obtain⟨g',r,q,_⟩:=Px hR hr ht;refine⟨g',⟨fun k v hk=>?_,r.bb,r.bm,r.az,r.defers,r.jy,r.same⟩⟩;replace hk:look k ((s,u)::S.env)=some v:=hk;rw[dQ]at hk;split at hk
   ·rename_i e;subst e;cases hk;exact⟨x,hx,q⟩
   ·exact r.env k v hk
  ·cases h
 ·cases h
theorem PA:∀{G G':List aW} {iY:List Sh} {vs us:List V},s7 G iY vs=some (us,G')→(∀v∈vs,v.cM=true)→∀u∈us,u.cM=true
 |G,G',iY,[],us,h,_=>by simp only[s7,Option.some.injEq,Prod.mk.injEq]at h;obtain⟨rfl,rfl⟩:=h;simp
 |G,G',iY,v::vs,us,h,hv=>by
  simp only[s7]at h;split at h
  ·rename_i u Pz G1 h1
   split at h
   ·rename_i Yq G2 h2
    cases h;intro z hz;rcases List.mem_cons.1 hz with rfl|hz
    ·unfold St.zZ at h1
     split at h1
     ·rename_i i n len
      split at h1
      ·rename_i sh Yp cs _
       cases hc:(n==sh.length&&Nat.blt 0 n&&Nat.ble (len*n) cs.length) with
       |false=>rw[hc]at h1;cases h1
       |true =>
        rw[hc]at h1;simp only[cond_true]at h1;split at h1
        ·cases h1;rfl
        ·cases h1
      ·cases h1
     ·cases h1;exact hv _ List.mem_cons_self
    ·exact PA h2 (fun v h=>hv v (List.mem_cons_of_mem _ h)) z hz
   ·cases h
  ·cases h
theorem Ys(hR:R E g S a w){id:Nat}{iY:List Sh}(h:iO.run S (.wA id iY)=some S'):∃g',R E g' S' a w:=by
 simp only[iO.run]at h;split at h
 ·rename_i cs fx
  split at h
  ·rename_i us G ht
   cases h;rcases hR.bb id cs fx with⟨rfl,um⟩ | ⟨cJ,gG,hm,c,e,hh,fH,hj⟩
   ·simp only[s7,Option.some.injEq,Prod.mk.injEq]at ht
    obtain⟨rfl,rfl⟩:=ht;refine⟨g,⟨hR.env,fun i ek hi=>?_,hR.bm,hR.az,hR.defers,hR.jy,hR.same⟩⟩;replace hi:look i ((id,[])::S.bb.filter fun p => !(p.1==id))=some ek:=hi;rw[dQ]at hi;by_cases j9:id=i
    ·subst j9
     rw[if_pos rfl]at hi;cases hi;exact hR.bb id [] fx
    ·rw[if_neg j9,oO]at hi
     split at hi
     ·cases hi
     ·exact hR.bb i ek hi
   ·have hle:=Fy hj
    have EX:(c.toList.take cs.length).length=cs.length:=by simp;omega
    obtain⟨g',r,q,k⟩:=JC hR ht (xs:=c.toList.take cs.length) ⟨EX.symm,fun i v y hv hy=>by
     obtain⟨_,y',h1,h2⟩:=hj i v hv;rw[List.getElem?_take]at hy;split at hy
     ·have hy:c[i]?=some y:=by simpa using hy
      rw[hy]at h1;cases h1;exact h2
     ·cases hy⟩
    have iQ:=PA ht fun v hv=>by
     obtain⟨j,pQ⟩:=List.mem_iff_getElem?.1 hv;exact(hj j v pQ).1
    have pM:g'.κ id=g.κ id:=by
     have:bj (S.cx g w) (.bK id 0) (.pointer (some ⟨g.κ id,0,none⟩)):=.bK id 0;have h6:=wG (k _ _ this);simp only[Value.pointer.injEq,Option.some.injEq,Addr.mk.injEq]at h6;exact h6.1.symm
    refine⟨g',⟨r.env,fun i ek hi=>?_,r.bm,r.az,r.defers,r.jy,r.same⟩⟩;replace hi:look i ((id,us)::S.bb.filter fun p => !(p.1==id))=some ek:=hi;rw[dQ]at hi;by_cases j9:id=i
    ·subst j9
     rw[if_pos rfl]at hi;cases hi;rcases r.bb id cs fx with⟨h0,um⟩ | ⟨h1,h2,h3,c',e',h4,h5,_⟩
     ·subst h0
      have:us=[]:=List.length_eq_zero_iff.1 (by have:=q.len;simpa using this)
      exact .inl ⟨this,um⟩
     ·rw[pM,hh]at h4
      cases h4;refine .inr ⟨h1,h2,h3,c,e,by rw[pM];exact hh,h5,fun j v hv=>?_⟩
      have pn:j<(c.toList.take cs.length).length:=by rw[←q.len];exact eZ hv
      have pO:=List.getElem?_eq_getElem pn;refine⟨iQ v (List.mem_of_getElem? hv),_,?_,q.at_ j v _ hv pO⟩;rw[List.getElem?_take]at pO;split at pO
      ·simpa using pO
      ·cases pO
    ·rw[if_neg j9,oO]at hi
     split at hi
     ·cases hi
     ·exact r.bb i ek hi
  ·cases h
 ·cases h;exact⟨g,hR⟩
end
end Go.Vm

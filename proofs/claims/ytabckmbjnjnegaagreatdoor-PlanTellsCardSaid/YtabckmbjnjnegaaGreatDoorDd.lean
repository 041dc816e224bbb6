/- - -/
import Derived.Test.YtabckmbjnjnegaaGreatDoorDc
attribute [local simp] Go.Vm.wrap64
namespace Go.Proofs.YtabckmbjnjnegaaGreatDoor
set_option linter.all false
set_option maxRecDepth 100000
set_option maxHeartbeats 400000
open Go.Vm
variable{l:List Int}{i:Nat}{o:Int}
def Qb(h:i<l.length):nth (l.set i o) i=o:=by simp[nth,h]
def aiA{k:Nat}(h:i≠k):nth (l.set i o) k=nth l k:=by simp[nth,h]
def aiB(h:i<l.length):l.set i (nth l i)=l:=by
 apply A4;intro k;by_cases hk:i=k
 .subst hk
  rw[Zs h,bc h]
 .rw[Zr hk]
def ax6{g:List Gt}{lv:Int}(hl:g.length=l.length)(hi:i<g.length):∀k,k<=g.length->tp g (l.set i o) lv k=tp g l lv k+(if i<k then km (nth g i) o lv-km (nth g i) (nth l i) lv else 0):=by
 intro k;induction k with
 |zero=>intro _;simp[Qa]
 |succ k ih =>
  intro hk;rw[LZ (by omega) (by simp;omega),LZ (by omega) (by omega),ih (by omega)]
  by_cases h1:i=k
  .subst h1
   rw[Qb (by omega),ax',aJ']
   omega
  .rw[aiA h1]
   by_cases h2:i<k
   .rw[aJ h2,aJ'];omega
   .rw[ax h2,ax'];omega
section
variable {g:List Gt} {s:List Gs} {lv w:Int}
def Qc(hl:g.length=s.length):∀{i k:Nat},i<=k->k<g.length->nth (bs lv w g s i).1 k=(fI (nth g k) (nth s k)).lo:=by
 intro i;induction i with
 |zero=>intro k _ hk;exact LY hk (by omega)
 |succ i ih =>
  intro k h hk;simp only[bs];rw[aiA (by omega)]
  exact ih (by omega) hk
def Xo(hl:g.length=s.length){i:Nat}(ht:tp g (bs lv w g s i).1 lv g.length=(bs lv w g s i).2)(hi:i<g.length)(o:Int) :
  tp g ((bs lv w g s i).1.set i o) lv g.length=(bs lv w g s i).2-iv lv (nth g i) (nth s i)+km (nth g i) o lv:=by
 rw[ax6 (by rw[rm hl]) hi _ (b8 _),aJ hi,ht,Qc hl (b8 _) hi]
 unfold iv;omega
def Qd(hl:g.length=s.length):∀i,i<=g.length->tp g (bs lv w g s i).1 lv g.length=(bs lv w g s i).2:=by
 intro i;induction i with
 |zero=>intro _;exact axV hl _ (b8 _)
 |succ i ih =>
  intro hi;have:=Xo hl (ih (by omega)) (by omega) (tq lv w (nth g i) (nth s i) (bs lv w g s i).2)
  simpa only[bs] using this
def ax7(hl:g.length=s.length){j:Nat}(hw:w<=(bs lv w g s j).2):∀k,j<=k->k<=g.length->bs lv w g s k=bs lv w g s j:=by
 intro k hjk;induction k with
 |zero=>intro _;obtain rfl:j=0:=by omega
        rfl
 |succ k ih =>
  intro hk;rcases cS k j with h|h
  .obtain rfl:j=k+1:=by omega
   rfl
  .have h1:=ih h (by omega)
   have ho:tq lv w (nth g k) (nth s k) (bs lv w g s k).2=(fI (nth g k) (nth s k)).lo:=by
    unfold tq;rw[ax (by rw[h1];omega)]
   have h2:bs lv w g s (k+1)=bs lv w g s k:=by
    have e1:(bs lv w g s k).1.set k (fI (nth g k) (nth s k)).lo=(bs lv w g s k).1:=by
     rw[<-Qc (lv:=lv) (w:=w) hl (b8 k) (by omega)]
     exact aiB (by rw[rm hl];omega)
    simp only[bs,ho,iv,e1];rw[show(bs lv w g s k).2-km (nth g k) (fI (nth g k) (nth s k)).lo lv+km (nth g k) (fI (nth g k) (nth s k)).lo lv=(bs lv w g s k).2 by omega]
   rw[h2,h1]
structure Way(lv w:Int)(g:List Gt)(s:List Gs)(i:Nat)(o:Int):Prop where
 lt:i<g.length
 lo:(fI (nth g i) (nth s i)).lo<=o
 hi:o<=(fI (nth g i) (nth s i)).hi
 no:∀p,(fI (nth g i) (nth s i)).lo<=p->p<o->(bs lv w g s i).2-iv lv (nth g i) (nth s i)+km (nth g i) p lv<w
def Way.done{i:Nat}{o:Int}(h:Way lv w g s i o)(hv:Gv (nth g i))(hs:pU (nth g i) (nth s i))(hd:o=(fI (nth g i) (nth s i)).hi\/w<=(bs lv w g s i).2-iv lv (nth g i) (nth s i)+km (nth g i) o lv) :
  tq lv w (nth g i) (nth s i) (bs lv w g s i).2=o:=by
 have h1:=h.lo;have h2:=h.hi;unfold tq;split
 .refine Xn h1 (by omega) (λp a b=>?_) (λa=>?_)
  .have:=h.no p a b
   exact decide_eq_false (by omega)
  .rcases hd with hd|hd
   .omega
   .exact fJ (by omega)
 next hn=>
  by_cases he:(fI (nth g i) (nth s i)).lo=o
  .exact he
  .have:=h.no _ (vk _) (by omega)
   unfold iv at this;omega
def aiC(hl:g.length=s.length){i:Nat}(hi:i<g.length)(hv:Gv (nth g i))(hs:pU (nth g i) (nth s i)):Way lv w g s i (fI (nth g i) (nth s i)).lo :=
 ⟨hi,vk _,(FC hv hs).2.1,λp a b=>by omega⟩
def aiD(hl:g.length=s.length){i:Nat}(hi:i<g.length):(bs lv w g s i).1.set i (fI (nth g i) (nth s i)).lo=(bs lv w g s i).1:=by
 rw[<-Qc (lv:=lv) (w:=w) hl (b8 i) hi];exact aiB (by rw[rm hl];exact hi)
end
section
attribute [local simp] mX mY lX mW
variable{i:Nat}
def aiE{l:List Int}(h:l.length<=i):nth l i=0:=by
 simp only[nth,List.getD,kW h];rfl
def ax8(g:List Gt)(s:List Gs)(lv w:Int)(G:List aM):aX F 120 [lH g,lq s,i64 lv,i64 w] G=some (.tuple [.slice (some 0) 2 ((rj g s lv w).map Gs.row),i64 (qA g s lv w),i64 (m9 g s lv w)],G) :=
 bD rfl rfl (by
  generalize hW:V.tuple [.slice (some 0) 2 ((rj g s lv w).map Gs.row),i64 (qA g s lv w),i64 (m9 g s lv w)]=W;by_cases he:aE g s lv=0
  .obtain⟨h1,h2,h3,h4,h5⟩:=LW he
   by_cases hw:0<=w/\w<=1073741824
   .have hE:m9 g s lv w=0:=by simp[m9,he,hw]
    simp only[rj,qA,hE,if_true]at hW;have wQ:(!decide (0<=w) || !decide (w<=1073741824))=false:=by simp;omega
    have zL:(decide (0<=w)&&decide (w<=1073741824))=true:=by simp;omega
    have AO:=axT h2 h1 h3 h4;by_cases hg:g=[]
    .subst hg
     have hs0:s=[]:=by simpa using h2.symm
     subst hs0;have hE3:aX F 164 [.slice none 3 [],.slice none 2 []] []=some (.tuple [.slice (some 0) 1 [],.slice (some 0) 1 []],[]):=AO [];have hT3:aX F 165 [.slice none 3 [],.slice none 1 [],i64 lv] []=some (i64 0,[]):=L0 (g:=[]) (l:=[]) rfl (by simp) (by simp) lv []
     have e2:lP 20031 0 (.tuple [.slice (some 0) 1 [],.slice (some 0) 1 []])=some (.tuple [.er 1,.slice none 1 []],none):=rfl;have he0:aX F 163 [.slice none 3 [],.slice none 2 [],i64 lv] []=some (i64 0,[]):=by
      have:=P8 [] [] lv [];rw[he]at this;exact this
     simp (disch:=omega) [-getElem?_pos,Lh,he0,dj,wQ,zL,hE3,e2,aff,Pb,afg,Pc,AB,hT3];simpa [pq,bs,nK] using hW
    .have cy:nL Bd.lo g s≠[]:=λe=>hg (by have:=DX (f:=Bd.lo) h2;rw[e]at this;exact pz.1 this.symm)
     have e2:=apX (id:=20031) (t:=0) (u:=0) (m:=nL Bd.hi g s) cy;have la:=DX (f:=Bd.lo) h2;simp (disch:=omega) [-getElem?_pos,Lh,P8,he,dj,wQ,zL,AO,e2,la];have gR:0<g.length:=nS.2 hg;refine go_loop (λx:Nat×List Int=>atW (lH g) (lq s) lv w g.length (ints (nL Bd.hi g s)) x.1 (dM x.2) G)
      (λx=>(∃o,Way lv w g s x.1 o/\x.2=(bs lv w g s x.1).1.set x.1 o)\/(x.1=g.length/\x.2=(bs lv w g s g.length).1)) (λx=>(g.length-x.1)*2000+(nth (nL Bd.hi g s) x.1-nth x.2 x.1).toNat) (0,nL Bd.lo g s) rfl (by simp) (.inl ⟨_,aiC h2 gR (h4 0 gR) (h3 0 gR),by rw[aiD h2 gR];rfl⟩) ?_
     rintro⟨i,l⟩ hinv;simp only at hinv;have hlen:l.length=g.length:=by
      rcases hinv with⟨o,_,rfl⟩ | ⟨_,rfl⟩
      .rw[qI,rm h2]
      .rw[rm h2]
     have hT:=L0 hlen.symm h1 h4 lv;rcases hinv with⟨o,hway,hl⟩ | ⟨rfl,rfl⟩
     .have hi:=hway.lt
      have aiF:tp g l lv g.length=(bs lv w g s i).2-iv lv (nth g i) (nth s i)+km (nth g i) o lv:=by
       rw[hl];exact Xo h2 (Qd h2 i (by omega)) hi o
      rw[aiF]at hT;generalize Is:(bs lv w g s i).2-iv lv (nth g i) (nth s i)+km (nth g i) o lv=T at *;have bJ:i<l.length:=by omega
      simp (disch:=omega) [-getElem?_pos,Pb,hi,hT,hlen];have It:i<(nL Bd.hi g s).length:=by rw[DX h2];exact hi
      have Qe:nth l i=o:=by rw[hl];exact Qb (by rw[rm h2];exact hi)
      have Iu:nth (nL Bd.hi g s) i=(fI (nth g i) (nth s i)).hi:=LY hi (by omega)
      refine bO (λh6=>?_) (λh6=>?_)
      .simp (disch:=omega) [-getElem?_pos,nG bJ,dQ It,Qe,Iu]
       refine bO (λh7=>?_) (λh7=>?_)
       .have hd:=hway.done (h4 i hi) (h3 i hi) (.inl h7)
        have hn:(bs lv w g s (i+1)).1=l:=by simp only[bs,hd,hl]
        refine bB (i+1,l) (by simp) ?_ ?_
        .by_cases fN:i+1<g.length
         .refine .inl ⟨_,aiC h2 fN (h4 _ fN) (h3 _ fN),?_⟩
          simp only;rw[aiD h2 fN,hn]
         .exact .inr ⟨by simp only;omega,by simp only;rw[<-hn,show g.length=i+1 by omega]⟩
        .have pJ:nth (nL Bd.hi g s) (i+1)-nth l (i+1)<=1000:=by
          by_cases fN:i+1<g.length
          .rw[LY fN (by omega),<- hn,Qc h2 (b8 _) fN]
           have:=FC (h4 _ fN) (h3 _ fN);have:=(h4 _ fN).dF;omega
          .have e1:nth (nL Bd.hi g s) (i+1)=0:=aiE (by rw[DX h2];omega)
           have e2:nth l (i+1)=0:=aiE (by omega)
           omega
         simp only;omega
       .have o0:=hway.lo
        have wJ:=hway.hi;have hro:=FC (h4 i hi) (h3 i hi);have hmo:=(h4 i hi).dF;refine go_loop (λl:List Int=>atU (lH g) (lq s) lv w g.length (ints (nL Bd.hi g s)) i (dM l) G)
         (λm=>∃o',Way lv w g s i o'/\o<=o'/\m=(bs lv w g s i).1.set i o') (λm=>(nth (nL Bd.hi g s) i-nth m i).toNat) l rfl (by simp[hlen]) ⟨o,hway,vk _,hl⟩ ?_
        rintro m ⟨o',hway',Dj,rfl⟩;have aH2:=hway'.lo;have aH3:=hway'.hi;have L2:((bs lv w g s i).1.set i o').length=g.length:=by rw[qI,rm h2]
        have zF:i<((bs lv w g s i).1.set i o').length:=by omega
        have Iv:nth ((bs lv w g s i).1.set i o') i=o':=Qb (by rw[rm h2];exact hi)
        have L3:=L0 L2.symm h1 h4 lv;rw[Xo h2 (Qd h2 i (by omega)) hi o']at L3
        have GP:∀z,((bs lv w g s i).1.set i o').set i z=(bs lv w g s i).1.set i z:=λz=>by simp
        generalize hm:(bs lv w g s i).1.set i o'=m at L2 zF Iv L3 GP ⊢;by_cases h8:o'<(fI (nth g i) (nth s i)).hi
        .by_cases h9:(bs lv w g s i).2-iv lv (nth g i) (nth s i)+km (nth g i) o' lv<w
         .simp (disch:=omega) [-getElem?_pos,O9,nG zF,dQ It,Iv,Iu,h8,L3,L2,h9]
          refine bB (m.set i (o'+1)) (by simp) ⟨o'+1,⟨hi,by omega,by omega,λp a b=>?_⟩,by omega,GP _⟩ ?_
          .by_cases hp:p=o'
           .rw[hp];exact h9
           .exact hway'.no p a (by omega)
          .rw[Qb zF];omega
         .simp (disch:=omega) [-getElem?_pos,O9,nG zF,dQ It,Iv,Iu,h8,L3,L2,h9]
          refine bB (i,m) (by simp) (.inl ⟨o',hway',hm.symm⟩) ?_
          have:o≠o':=λe=>by rw[<-e,Is]at h9;exact h9 h6
          simp only[Iv,Qe,Iu];omega
        .simp (disch:=omega) [-getElem?_pos,O9,nG zF,dQ It,Iv,Iu,h8,L3,L2]
         refine bB (i,m) (by simp) (.inl ⟨o',hway',hm.symm⟩) ?_
         simp only[Iv,Qe,Iu];omega
      .have hd:=hway.done (h4 i hi) (h3 i hi) (.inr (by omega))
       have Xp:(bs lv w g s (i+1)).2=T:=by rw[<-Is];simp only[bs,hd]
       have hn:l=(bs lv w g s g.length).1:=by
        rw[ax7 h2 (j:=i+1) (by omega) g.length (by omega) (b8 _),hl]
        simp only[bs,hd]
       clear hT aiF bJ Qe
       subst hn;refine go_loop (λk:Nat=>afh (lH g) lv g.length (.slice (some 1096) 2 ((pq ((bs lv w g s g.length).1.take k) (s.take k)).map Gs.row)) (lq s) s.length k (dM (bs lv w g s g.length).1) k G) (λk=>k<=s.length) (λk=>s.length-k) 0 rfl (by simp[pq]) (by omega) ?_
       rintro k hk;have bE:(pq ((bs lv w g s g.length).1.take k) (s.take k)).length=k:=by
        have:=rm (lv:=lv) (w:=w) h2 g.length;simp[pq];omega
       have FD:=rm (lv:=lv) (w:=w) h2 g.length;have L4:=L0 FD.symm h1 h4 lv;rw[Qd h2 g.length (b8 _)]at L4;simp (disch:=omega) [-getElem?_pos,Pc,bE];refine bO (λh6=>?_) (λh6=>?_)
       .have h6:k<s.length:=by omega
        have h7:k<(bs lv w g s g.length).1.length:=by omega
        simp (disch:=omega) [-getElem?_pos,bc (l:=s),nG h7,bE];refine bB (k+1) ?_ (by omega) (by omega)
        unfold pq;rw[BX h7 h6];simp[Ip]
       .obtain rfl:k=s.length:=by omega
        have t1:(bs lv w g s g.length).1.take s.length=(bs lv w g s g.length).1:=kD (by omega)
        rw[t1,mL]at bE ⊢;simp (disch:=omega) [-getElem?_pos,bE,FD,L4];exact hW
     .have hi:¬ g.length<g.length:=iX _
      simp (disch:=omega) [-getElem?_pos,Pb,hlen];refine go_loop (λk:Nat=>afh (lH g) lv g.length (.slice (some 1096) 2 ((pq ((bs lv w g s g.length).1.take k) (s.take k)).map Gs.row)) (lq s) s.length k (dM (bs lv w g s g.length).1) k G) (λk=>k<=s.length) (λk=>s.length-k) 0 rfl (by simp[pq]) (by omega) ?_
      rintro k hk;have bE:(pq ((bs lv w g s g.length).1.take k) (s.take k)).length=k:=by
       have:=rm (lv:=lv) (w:=w) h2 g.length;simp[pq];omega
      have FD:=rm (lv:=lv) (w:=w) h2 g.length;have L4:=L0 FD.symm h1 h4 lv;rw[Qd h2 g.length (b8 _)]at L4;simp (disch:=omega) [-getElem?_pos,Pc,bE];refine bO (λh6=>?_) (λh6=>?_)
      .have h6:k<s.length:=by omega
       have h7:k<(bs lv w g s g.length).1.length:=by omega
       simp (disch:=omega) [-getElem?_pos,bc (l:=s),nG h7,bE];refine bB (k+1) ?_ (by omega) (by omega)
       unfold pq;rw[BX h7 h6];simp[Ip]
      .obtain rfl:k=s.length:=by omega
       have t1:(bs lv w g s g.length).1.take s.length=(bs lv w g s g.length).1:=kD (by omega)
       rw[t1,mL]at bE ⊢;simp (disch:=omega) [-getElem?_pos,bE,FD,L4];exact hW
   .have zL:(decide (0<=w)&&decide (w<=1073741824))=false:=by simp;omega
    have hE:m9 g s lv w=1:=by simp[m9,he];omega
    have AO:¬ m9 g s lv w=0:=by rw[hE];omega
    simp only[rj,qA,ax AO]at hW;rw[hE]at hW;have wQ:(!decide (0<=w) || !decide (w<=1073741824))=true:=by simp;omega
    simp (disch:=omega) [-getElem?_pos,Lh,P8,he,dj,wQ,zL];exact hW
  .have hE:m9 g s lv w=aE g s lv:=by simp[m9,he]
   have AO:¬ m9 g s lv w=0:=by rw[hE];exact he
   simp only[rj,qA,ax AO]at hW;rw[hE]at hW;simp (disch:=omega) [-getElem?_pos,Lh,P8,he];exact hW)
structure Dm where
 r:Rs
 u:List Un
 g:List Gt
 gr:Int
abbrev Dm.row(d:Dm):List V:=[jK d.r.c,i64 d.r.d,i64 d.r.l,i64 d.r.f,i64 d.r.s,i64 d.r.t,ma d.u,lH d.g,i64 d.gr]
abbrev dm(d:Dm):V:=.agg d.row
structure Ds where
 v:Int
 rel:Int
 u:List Us
 g:List Gs
 deriving Inhabited
abbrev Ds.row(s:Ds):List V:=[i64 s.v,i64 s.rel,lF s.u,lq s.g]
abbrev dst(s:Ds):V:=.agg s.row
def uE(u:List Un):Int:=dH (λi=>jc (nth u i)) u.length 0
def gE(g:List Gt):Int:=dH (λi=>mb (nth g i)) g.length 0
def gD(d:Dm):Int :=
 if jz d.r≠0 then jz d.r else if 6<d.u.length\/8<d.g.length then 10 else if uE d.u≠0 then uE d.u else if gE d.g≠0 then gE d.g
 else if d.gr<1\/1073741824<d.gr then 1 else 0
def FE(d:Dm)(G:List aM):aX F 64 [dm d] G=some (i64 (gD d),G) :=
 bD rfl rfl (by
  obtain⟨r,u,g,gr⟩:=d;generalize hW:gD ⟨r,u,g,gr⟩=W;unfold gD at hW;simp only at hW;have hS:=λG=>ahC r G;have B4:=λG=>DI r G;by_cases h1:jz r=0
  .rw[ax']at hW
   by_cases h2:6<u.length
   .rw[aJ (.inl h2)]at hW
    have mC:(6:Int)<u.length:=by omega
    simp (disch:=omega) [-getElem?_pos,K7,hS,B4,h1,mC];exact hW
   by_cases h3:8<g.length
   .rw[aJ (.inr h3)]at hW
    have mC:¬ (6:Int)<u.length:=by omega
    have jd:(8:Int)<g.length:=by omega
    simp (disch:=omega) [-getElem?_pos,K7,hS,B4,h1,mC,jd];exact hW
   rw[ax']at hW
   have mC:¬ (6:Int)<u.length:=by omega
   have jd:¬ (8:Int)<g.length:=by omega
   simp (disch:=omega) [-getElem?_pos,K7,hS,B4,h1,mC,jd];refine go_loop (λi:Nat=>asd (ma u) u.length i (Dm.row ⟨r,u,g,gr⟩) G) (λi=>i<=u.length/\dH (λi=>jc (nth u i)) (u.length-i) i=uE u) (λi=>u.length-i) 0 rfl (by simp) ⟨by omega,rfl⟩ ?_
   rintro i ⟨hi,hq⟩;simp (disch:=omega) [-getElem?_pos,ad8];refine bO (λh4=>?_) (λh4=>?_)
   .have h4:i<u.length:=by omega
    rw[kl h4]at hq;by_cases h5:jc (nth u i)=0
    .rw[aJ h5]at hq
     simp (disch:=omega) [-getElem?_pos,bc (l:=u),vZ,pR,h5];exact bB' (i+1) ⟨by omega,hq⟩
    .rw[ax h5]at hq
     rw[<-hq,aJ h5]at hW;simp (disch:=omega) [-getElem?_pos,bc (l:=u),vZ,pR,h5];exact hW
   .obtain rfl:i=u.length:=by omega
    rw[l7]at hq;rw[<-hq,ax']at hW
    refine go_loop (λi:Nat=>asf (lH g) g.length i (Dm.row ⟨r,u,g,gr⟩) G) (λi=>i<=g.length/\dH (λi=>mb (nth g i)) (g.length-i) i=gE g) (λi=>g.length-i) 0 rfl (by simp) ⟨by omega,rfl⟩ ?_
    rintro i ⟨hi,hq⟩;simp (disch:=omega) [-getElem?_pos,ad9];refine bO (λh4=>?_) (λh4=>?_)
    .have h4:i<g.length:=by omega
     rw[kl h4]at hq;by_cases h5:mb (nth g i)=0
     .rw[aJ h5]at hq
      simp (disch:=omega) [-getElem?_pos,bc (l:=g),DP,DQ,h5];exact bB' (i+1) ⟨by omega,hq⟩
     .rw[ax h5]at hq
      rw[<-hq,aJ h5]at hW;simp (disch:=omega) [-getElem?_pos,bc (l:=g),DP,DQ,h5];exact hW
    .obtain rfl:i=g.length:=by omega
     rw[l7]at hq;rw[<-hq,ax']at hW
     by_cases h6:gr<1
     .rw[aJ (.inl h6)]at hW
      simp (disch:=omega) [-getElem?_pos,h6];exact hW
     .by_cases h7:1073741824<gr
      .rw[aJ (.inr h7)]at hW
       simp (disch:=omega) [-getElem?_pos,h6,h7];exact hW
      .rw[ax']at hW
       simp (disch:=omega) [-getElem?_pos,h6,h7];exact hW
  .rw[aJ h1]at hW
   simp (disch:=omega) [-getElem?_pos,K7,hS,B4,h1];exact hW)
def FF(d:Dm)(G:List aM):aX F 67 [dm d] G=some (i64 (gD d),G) :=
 bD rfl rfl (by
  obtain⟨r,u,g,gr⟩:=d;generalize hW:gD ⟨r,u,g,gr⟩=W;unfold gD at hW;simp only at hW;have hS:=λG=>ahC r G;have B4:=λG=>DI r G;by_cases h1:jz r=0
  .rw[ax']at hW
   by_cases h2:6<u.length
   .rw[aJ (.inl h2)]at hW
    have mC:(6:Int)<u.length:=by omega
    simp (disch:=omega) [-getElem?_pos,K8,hS,B4,h1,mC];exact hW
   by_cases h3:8<g.length
   .rw[aJ (.inr h3)]at hW
    have mC:¬ (6:Int)<u.length:=by omega
    have jd:(8:Int)<g.length:=by omega
    simp (disch:=omega) [-getElem?_pos,K8,hS,B4,h1,mC,jd];exact hW
   rw[ax']at hW
   have mC:¬ (6:Int)<u.length:=by omega
   have jd:¬ (8:Int)<g.length:=by omega
   simp (disch:=omega) [-getElem?_pos,K8,hS,B4,h1,mC,jd];refine go_loop (λi:Nat=>asm (ma u) u.length i (Dm.row ⟨r,u,g,gr⟩) G) (λi=>i<=u.length/\dH (λi=>jc (nth u i)) (u.length-i) i=uE u) (λi=>u.length-i) 0 rfl (by simp) ⟨by omega,rfl⟩ ?_
   rintro i ⟨hi,hq⟩;simp (disch:=omega) [-getElem?_pos,aed];refine bO (λh4=>?_) (λh4=>?_)
   .have h4:i<u.length:=by omega
    rw[kl h4]at hq;by_cases h5:jc (nth u i)=0
    .rw[aJ h5]at hq
     simp (disch:=omega) [-getElem?_pos,bc (l:=u),vZ,pR,h5];exact bB' (i+1) ⟨by omega,hq⟩
    .rw[ax h5]at hq
     rw[<-hq,aJ h5]at hW;simp (disch:=omega) [-getElem?_pos,bc (l:=u),vZ,pR,h5];exact hW
   .obtain rfl:i=u.length:=by omega
    rw[l7]at hq;rw[<-hq,ax']at hW
    refine go_loop (λi:Nat=>aso (lH g) g.length i (Dm.row ⟨r,u,g,gr⟩) G) (λi=>i<=g.length/\dH (λi=>mb (nth g i)) (g.length-i) i=gE g) (λi=>g.length-i) 0 rfl (by simp) ⟨by omega,rfl⟩ ?_
    rintro i ⟨hi,hq⟩;simp (disch:=omega) [-getElem?_pos,aee];refine bO (λh4=>?_) (λh4=>?_)
    .have h4:i<g.length:=by omega
     rw[kl h4]at hq;by_cases h5:mb (nth g i)=0
     .rw[aJ h5]at hq
      simp (disch:=omega) [-getElem?_pos,bc (l:=g),DP,DQ,h5];exact bB' (i+1) ⟨by omega,hq⟩
     .rw[ax h5]at hq
      rw[<-hq,aJ h5]at hW;simp (disch:=omega) [-getElem?_pos,bc (l:=g),DP,DQ,h5];exact hW
    .obtain rfl:i=g.length:=by omega
     rw[l7]at hq;rw[<-hq,ax']at hW
     by_cases h6:gr<1
     .rw[aJ (.inl h6)]at hW
      simp (disch:=omega) [-getElem?_pos,h6];exact hW
     .by_cases h7:1073741824<gr
      .rw[aJ (.inr h7)]at hW
       simp (disch:=omega) [-getElem?_pos,h6,h7];exact hW
      .rw[ax']at hW
       simp (disch:=omega) [-getElem?_pos,h6,h7];exact hW
  .rw[aJ h1]at hW
   simp (disch:=omega) [-getElem?_pos,K8,hS,B4,h1];exact hW)
structure Sv(r:Rs):Prop where
 c:iu r.c=0
 two:2<=r.c.length
 top:(nth r.c (r.c.length-1)).x<=16777216
 up:∀i,1<=i->i<r.c.length->(nth r.c (i-1)).y<(nth r.c i).y
 d:(nth r.c 0).x<=r.d
 l:r.d<=r.l
 f:r.l<=r.f
 s:r.f<=r.s
 t:r.s<=r.t
 last:r.t<=(nth r.c (r.c.length-1)).x
variable{r:Rs}
def Qf(h:jz r=0):Sv r:=by
 have hc:=vX h;unfold jz at h;rw[ax']at h
 split at h
 .cases h
 split at h
 .cases h
 split at h
 next h1 h2 h3=>
  have hp:=w6 hc;have up:∀i,1<=i->i<r.c.length->(nth r.c (i-1)).y<(nth r.c i).y:=λi a b=>by
   have:=tT h3 i a (by omega)
   unfold vV at this;split at this
   .cases this
   .omega
  have lv:∀i,1<=i->i<7->nth (vW r) (i-1)<=nth (vW r) i:=λi a b=>by
   have:=tT h i a (by omega)
   unfold ti at this;split at this
   .cases this
   .omega
  have l1:=lv 1 (by omega) (by omega)
  have l2:=lv 2 (by omega) (by omega)
  have l3:=lv 3 (by omega) (by omega)
  have l4:=lv 4 (by omega) (by omega)
  have l5:=lv 5 (by omega) (by omega)
  have l6:=lv 6 (by omega) (by omega)
  exact⟨hc,by omega,by omega,up,l1,l2,l3,l4,l5,l6⟩
 .cases h
def aiJ(h:jz r=0){l:Int}(h1:(nth r.c 0).x<=l)(h2:l<=(nth r.c (r.c.length-1)).x):vY r l=0:=by
 have v:=Qf h;have hp:=w6 v.c;have:=(oG v.c).x0 0 hp;have:=v.top;unfold vY;rw[ax',aJ']
def mD(d:Dm):Int:=jy d.r.c d.r.t
def Iw(d:Dm):Int:=jy d.r.c d.r.d
def Xr(h:jz r=0):vY r r.t=0:=by
 have v:=Qf h;have:=v.d;have:=v.l;have:=v.f;have:=v.s;have:=v.t;exact aiJ h (by omega) v.last
def aye(h:jz r=0):vY r r.d=0:=by
 have v:=Qf h;have:=v.last;have:=v.l;have:=v.f;have:=v.s;have:=v.t;exact aiJ h v.d (by omega)
def jq(d:Dm)(s:Ds):Prop:=(0<=s.v/\s.v<=mD d)/\(0<=s.rel/\s.rel<=1073741824)/\s.u.length=d.u.length/\s.g.length=d.g.length/\Fu d.u s.u/\B3 d.g s.g
noncomputable instance {d:Dm} {s:Ds}:Decidable (jq d s):=Classical.propDecidable _
noncomputable def dE(d:Dm)(s:Ds):Int:=if gD d≠0 then gD d else if jq d s then 0 else 3
structure Dv(d:Dm):Prop where
 r:jz d.r=0
 u:d.u.length<=6
 g:d.g.length<=8
 uv:∀i,i<d.u.length->jc (nth d.u i)=0
 gv:∀i,i<d.g.length->mb (nth d.g i)=0
 gr:1<=d.gr/\d.gr<=1073741824
variable{d:Dm}
def B5(h:gD d=0):Dv d:=by
 unfold gD at h;split at h
 next h1=>exact absurd h h1
 split at h
 .cases h
 split at h
 next h1=>exact absurd h h1
 split at h
 next h1=>exact absurd h h1
 split at h
 .cases h
 rename_i h1 h2 h3 h4 h5;have h3:uE d.u=0:=jf h3;have h4:gE d.g=0:=jf h4;exact⟨jf h1,by omega,by omega,λi hi=>tT h3 i (by omega) (by omega),λi hi=>tT h4 i (by omega) (by omega),by omega⟩
def aiK(h:jz d.r=0)(G:List aM):aX F 215 [dm d] G=some (i64 (mD d),G) :=
 bD rfl rfl (by
  simp[agF,PL (oG (vX h)),mD])
def Xs(h:Dv d)(s:Ds)(G:List aM):aX F 203 [dm d,dst s] G=some (.bool (decide (jq d s)),G) :=
 bD rfl rfl (by
  obtain⟨v,rel,su,sg⟩:=s;generalize hW:decide (jq d ⟨v,rel,su,sg⟩)=W;have no:¬ jq d ⟨v,rel,su,sg⟩->W=false:=λhn=>by rw[<-hW];simp[hn]
  unfold jq at no;simp only at no;have Xt:=h.u;have hg8:=h.g;have hc:=aiK h.r;by_cases h1:0<=v/\v<=mD d
  .have a1:(decide (0<=v)&&decide (v<=mD d))=true:=by simp;omega
   have a2:(!decide (0<=v) || !decide (v<=mD d))=false:=by simp;omega
   by_cases h2:0<=rel/\rel<=1073741824
   .have b1:(decide (0<=rel)&&decide (rel<=1073741824))=true:=by simp;omega
    have b2:(!decide (0<=rel) || !decide (rel<=1073741824))=false:=by simp;omega
    by_cases h3:su.length=d.u.length
    .have c1:(su.length:Int)=d.u.length:=by omega
     by_cases h4:sg.length=d.g.length
     .have d1:(sg.length:Int)=d.g.length:=by omega
      simp (disch:=omega) [-getElem?_pos,w5,hc,dZ,a1,a2,b1,b2,c1,d1];refine go_loop (λi:Nat=>au7 (ma d.u) d.u.length i d.row [i64 v,i64 rel,lF su,lq sg] G) (λi=>i<=d.u.length/\∀j,j<i->fH (nth d.u j) (nth su j)) (λi=>d.u.length-i) 0 rfl (by simp) ⟨by omega,by omega⟩ ?_
      rintro i ⟨hi,hv⟩;simp (disch:=omega) [-getElem?_pos,ags];refine bO (λh5=>?_) (λh5=>?_)
      .have h5:i<d.u.length:=by omega
       have tr:i<su.length:=by omega
       by_cases h6:fH (nth d.u i) (nth su i)
       .simp (disch:=omega) [-getElem?_pos,bc (l:=d.u),bc (l:=su),DL,AJ,h6]
        refine bB' (i+1) ⟨by omega,λj hj=>?_⟩
        rcases cS j i with h7|h7
        .exact hv j h7
        .rwa [show j=i by omega]
       .simp (disch:=omega) [-getElem?_pos,bc (l:=d.u),bc (l:=su),DL,AJ,h6]
        exact no (λh=>h6 (h.2.2.2.2.1 i h5))
      .obtain rfl:i=d.u.length:=by omega
       refine go_loop (λi:Nat=>au9 (lH d.g) d.g.length i [i64 v,i64 rel,lF su,lq sg] G) (λi=>i<=d.g.length/\∀j,j<i->pU (nth d.g j) (nth sg j)) (λi=>d.g.length-i) 0 rfl (by simp) ⟨by omega,by omega⟩ ?_
       rintro i ⟨hi,hg⟩;simp (disch:=omega) [-getElem?_pos,agt];refine bO (λh5=>?_) (λh5=>?_)
       .have h5:i<d.g.length:=by omega
        have tr:i<sg.length:=by omega
        by_cases h6:pU (nth d.g i) (nth sg i)
        .have je:(!decide (0<=(nth sg i).o) || !decide ((nth sg i).o<=(nth d.g i).dF))=false:=by simp;exact h6
         simp (disch:=omega) [-getElem?_pos,bc (l:=d.g),bc (l:=sg),dZ,DW,h6,je];refine bB' (i+1) ⟨by omega,λj hj=>?_⟩
         rcases cS j i with h7|h7
         .exact hg j h7
         .rwa [show j=i by omega]
        .have je:(!decide (0<=(nth sg i).o) || !decide ((nth sg i).o<=(nth d.g i).dF))=true:=by
          have:¬ (0<=(nth sg i).o/\(nth sg i).o<=(nth d.g i).dF):=h6;simp;omega
         simp (disch:=omega) [-getElem?_pos,bc (l:=d.g),bc (l:=sg),dZ,DW,h6,je];exact no (λh=>h6 (h.2.2.2.2.2 i h5))
       .obtain rfl:i=d.g.length:=by omega
        rw[<-hW];have:jq d ⟨v,rel,su,sg⟩:=⟨h1,h2,h3,h4,hv,hg⟩;simp[this]
     .have d1:¬ (sg.length:Int)=d.g.length:=by omega
      simp (disch:=omega) [-getElem?_pos,w5,hc,dZ,a1,a2,b1,b2,c1,d1];exact no (λh=>h4 h.2.2.2.1)
    .have c1:¬ (su.length:Int)=d.u.length:=by omega
     simp (disch:=omega) [-getElem?_pos,w5,hc,dZ,a1,a2,b1,b2,c1];exact no (λh=>h3 h.2.2.1)
   .have b1:(decide (0<=rel)&&decide (rel<=1073741824))=false:=by simp;omega
    have b2:(!decide (0<=rel) || !decide (rel<=1073741824))=true:=by simp;omega
    by_cases c1:(su.length:Int)=d.u.length
    .by_cases d1:(sg.length:Int)=d.g.length
     .simp (disch:=omega) [-getElem?_pos,w5,hc,dZ,a1,a2,b1,b2,c1,d1]
      exact no (λh=>h2 h.2.1)
     .simp (disch:=omega) [-getElem?_pos,w5,hc,dZ,a1,a2,b1,b2,c1,d1]
      exact no (λh=>h2 h.2.1)
    .simp (disch:=omega) [-getElem?_pos,w5,hc,dZ,a1,a2,b1,b2,c1]
     exact no (λh=>h2 h.2.1)
  .have a1:(decide (0<=v)&&decide (v<=mD d))=false:=by simp;omega
   have a2:(!decide (0<=v) || !decide (v<=mD d))=true:=by simp;omega
   by_cases h2:0<=rel/\rel<=1073741824
   .have b1:(decide (0<=rel)&&decide (rel<=1073741824))=true:=by simp;omega
    have b2:(!decide (0<=rel) || !decide (rel<=1073741824))=false:=by simp;omega
    by_cases c1:(su.length:Int)=d.u.length
    .by_cases d1:(sg.length:Int)=d.g.length
     .simp (disch:=omega) [-getElem?_pos,w5,hc,dZ,a1,a2,b1,b2,c1,d1]
      exact no (λh=>h1 h.1)
     .simp (disch:=omega) [-getElem?_pos,w5,hc,dZ,a1,a2,b1,b2,c1,d1]
      exact no (λh=>h1 h.1)
    .simp (disch:=omega) [-getElem?_pos,w5,hc,dZ,a1,a2,b1,b2,c1]
     exact no (λh=>h1 h.1)
   .have b1:(decide (0<=rel)&&decide (rel<=1073741824))=false:=by simp;omega
    have b2:(!decide (0<=rel) || !decide (rel<=1073741824))=true:=by simp;omega
    by_cases c1:(su.length:Int)=d.u.length
    .by_cases d1:(sg.length:Int)=d.g.length
     .simp (disch:=omega) [-getElem?_pos,w5,hc,dZ,a1,a2,b1,b2,c1,d1]
      exact no (λh=>h1 h.1)
     .simp (disch:=omega) [-getElem?_pos,w5,hc,dZ,a1,a2,b1,b2,c1,d1]
      exact no (λh=>h1 h.1)
    .simp (disch:=omega) [-getElem?_pos,w5,hc,dZ,a1,a2,b1,b2,c1]
     exact no (λh=>h1 h.1))
def ayh(hd:gD d=0)(s:Ds)(G:List aM):aX F 117 [dm d,dst s] G=some (.bool (decide (jq d s)),G):=by
  have h:=B5 hd;exact bD rfl rfl (by
   obtain⟨v,rel,su,sg⟩:=s;generalize hW:decide (jq d ⟨v,rel,su,sg⟩)=W;have no:¬ jq d ⟨v,rel,su,sg⟩->W=false:=λhn=>by rw[<-hW];simp[hn]
   unfold jq at no;simp only at no;have Xt:=h.u;have hg8:=h.g;have hc:=λG=>FF d G;have hV:=λG=>PM d.r d.r.t G;have we:=Xr h.r;have yk:jy d.r.c d.r.t=mD d:=rfl;by_cases h1:0<=v/\v<=mD d
   .have a1:(decide (0<=v)&&decide (v<=mD d))=true:=by simp;omega
    have a2:(!decide (0<=v) || !decide (v<=mD d))=false:=by simp;omega
    by_cases h2:0<=rel/\rel<=1073741824
    .have b1:(decide (0<=rel)&&decide (rel<=1073741824))=true:=by simp;omega
     have b2:(!decide (0<=rel) || !decide (rel<=1073741824))=false:=by simp;omega
     by_cases h3:su.length=d.u.length
     .have c1:(su.length:Int)=d.u.length:=by omega
      by_cases h4:sg.length=d.g.length
      .have d1:(sg.length:Int)=d.g.length:=by omega
       simp (disch:=omega) [-getElem?_pos,vT,hc,hd,hV,we,yk,dj,a1,a2,b1,b2,c1,d1];refine go_loop (λi:Nat=>atD (ma d.u) d.u.length i d.row [i64 v,i64 rel,lF su,lq sg] G) (λi=>i<=d.u.length/\∀j,j<i->fH (nth d.u j) (nth su j)) (λi=>d.u.length-i) 0 rfl (by simp) ⟨by omega,by omega⟩ ?_
       rintro i ⟨hi,hv⟩;simp (disch:=omega) [-getElem?_pos,afa];refine bO (λh5=>?_) (λh5=>?_)
       .have h5:i<d.u.length:=by omega
        have tr:i<su.length:=by omega
        by_cases h6:fH (nth d.u i) (nth su i)
        .simp (disch:=omega) [-getElem?_pos,bc (l:=d.u),bc (l:=su),DL,AJ,h6]
         refine bB' (i+1) ⟨by omega,λj hj=>?_⟩
         rcases cS j i with h7|h7
         .exact hv j h7
         .rwa [show j=i by omega]
        .simp (disch:=omega) [-getElem?_pos,bc (l:=d.u),bc (l:=su),DL,AJ,h6]
         exact no (λh=>h6 (h.2.2.2.2.1 i h5))
       .obtain rfl:i=d.u.length:=by omega
        refine go_loop (λi:Nat=>atG (lH d.g) d.g.length i [i64 v,i64 rel,lF su,lq sg] G) (λi=>i<=d.g.length/\∀j,j<i->pU (nth d.g j) (nth sg j)) (λi=>d.g.length-i) 0 rfl (by simp) ⟨by omega,by omega⟩ ?_
        rintro i ⟨hi,hg⟩;simp (disch:=omega) [-getElem?_pos,afb];refine bO (λh5=>?_) (λh5=>?_)
        .have h5:i<d.g.length:=by omega
         have tr:i<sg.length:=by omega
         by_cases h6:pU (nth d.g i) (nth sg i)
         .have je:(!decide (0<=(nth sg i).o) || !decide ((nth sg i).o<=(nth d.g i).dF))=false:=by simp;exact h6
          simp (disch:=omega) [-getElem?_pos,bc (l:=d.g),bc (l:=sg),dZ,DW,h6,je];refine bB' (i+1) ⟨by omega,λj hj=>?_⟩
          rcases cS j i with h7|h7
          .exact hg j h7
          .rwa [show j=i by omega]
         .have je:(!decide (0<=(nth sg i).o) || !decide ((nth sg i).o<=(nth d.g i).dF))=true:=by
           have:¬ (0<=(nth sg i).o/\(nth sg i).o<=(nth d.g i).dF):=h6;simp;omega
          simp (disch:=omega) [-getElem?_pos,bc (l:=d.g),bc (l:=sg),dZ,DW,h6,je];exact no (λh=>h6 (h.2.2.2.2.2 i h5))
        .obtain rfl:i=d.g.length:=by omega
         rw[<-hW];have:jq d ⟨v,rel,su,sg⟩:=⟨h1,h2,h3,h4,hv,hg⟩;simp[this]
      .have d1:¬ (sg.length:Int)=d.g.length:=by omega
       simp (disch:=omega) [-getElem?_pos,vT,hc,hd,hV,we,yk,dj,a1,a2,b1,b2,c1,d1];exact no (λh=>h4 h.2.2.2.1)
     .have c1:¬ (su.length:Int)=d.u.length:=by omega
      simp (disch:=omega) [-getElem?_pos,vT,hc,hd,hV,we,yk,dj,a1,a2,b1,b2,c1];exact no (λh=>h3 h.2.2.1)
    .have b1:(decide (0<=rel)&&decide (rel<=1073741824))=false:=by simp;omega
     have b2:(!decide (0<=rel) || !decide (rel<=1073741824))=true:=by simp;omega
     by_cases c1:(su.length:Int)=d.u.length
     .by_cases d1:(sg.length:Int)=d.g.length
      .simp (disch:=omega) [-getElem?_pos,vT,hc,hd,hV,we,yk,dj,a1,a2,b1,b2,c1,d1]
       exact no (λh=>h2 h.2.1)
      .simp (disch:=omega) [-getElem?_pos,vT,hc,hd,hV,we,yk,dj,a1,a2,b1,b2,c1,d1]
       exact no (λh=>h2 h.2.1)
     .simp (disch:=omega) [-getElem?_pos,vT,hc,hd,hV,we,yk,dj,a1,a2,b1,b2,c1]
      exact no (λh=>h2 h.2.1)
   .have a1:(decide (0<=v)&&decide (v<=mD d))=false:=by simp;omega
    have a2:(!decide (0<=v) || !decide (v<=mD d))=true:=by simp;omega
    by_cases h2:0<=rel/\rel<=1073741824
    .have b1:(decide (0<=rel)&&decide (rel<=1073741824))=true:=by simp;omega
     have b2:(!decide (0<=rel) || !decide (rel<=1073741824))=false:=by simp;omega
     by_cases c1:(su.length:Int)=d.u.length
     .by_cases d1:(sg.length:Int)=d.g.length
      .simp (disch:=omega) [-getElem?_pos,vT,hc,hd,hV,we,yk,dj,a1,a2,b1,b2,c1,d1]
       exact no (λh=>h1 h.1)
      .simp (disch:=omega) [-getElem?_pos,vT,hc,hd,hV,we,yk,dj,a1,a2,b1,b2,c1,d1]
       exact no (λh=>h1 h.1)
     .simp (disch:=omega) [-getElem?_pos,vT,hc,hd,hV,we,yk,dj,a1,a2,b1,b2,c1]
      exact no (λh=>h1 h.1)
    .have b1:(decide (0<=rel)&&decide (rel<=1073741824))=false:=by simp;omega
     have b2:(!decide (0<=rel) || !decide (rel<=1073741824))=true:=by simp;omega
     by_cases c1:(su.length:Int)=d.u.length
     .by_cases d1:(sg.length:Int)=d.g.length
      .simp (disch:=omega) [-getElem?_pos,vT,hc,hd,hV,we,yk,dj,a1,a2,b1,b2,c1,d1]
       exact no (λh=>h1 h.1)
      .simp (disch:=omega) [-getElem?_pos,vT,hc,hd,hV,we,yk,dj,a1,a2,b1,b2,c1,d1]
       exact no (λh=>h1 h.1)
     .simp (disch:=omega) [-getElem?_pos,vT,hc,hd,hV,we,yk,dj,a1,a2,b1,b2,c1]
      exact no (λh=>h1 h.1))
def Xu(d:Dm)(s:Ds)(G:List aM):aX F 117 [dm d,dst s] G=some (.bool (decide (gD d=0/\jq d s)),G):=by
 by_cases hd:gD d=0
 .rw[show decide (gD d=0/\jq d s)=decide (jq d s) by simp[hd]]
  exact ayh hd s G
 .rw[show decide (gD d=0/\jq d s)=false by simp[hd]]
  have hC:=λG=>FF d G;generalize gD d=x at hd hC;obtain⟨v,rel,su,sg⟩:=s;exact bD rfl rfl (by
   simp[vT,hC,hd])
def aiL(d:Dm)(s:Ds)(G:List aM):aX F 185 [dm d,dst s] G=some (.bool (decide (gD d=0/\jq d s)),G) :=
 bD rfl rfl (by
  by_cases hd:gD d=0
  .simp[Wa,FE,hd,Xs (B5 hd)]
  .simp[Wa,FE,hd])
def aiM(d:Dm)(s:Ds)(G:List aM):aX F 167 [dm d,dst s] G=some (i64 (dE d s),G) :=
 bD rfl rfl (by
  by_cases hd:gD d=0
  .by_cases hf:jq d s
   .simp[Pl,FE,hd,Xs (B5 hd),hf,dE]
   .simp[Pl,FE,hd,Xs (B5 hd),hf,dE]
  .simp[Pl,FE,hd,dE])
def aiN(d:Dm)(s:Ds)(G:List aM):aX F 90 [dm d,dst s] G=some (i64 (dE d s),G) :=
 bD rfl rfl (by
  by_cases hd:gD d=0
  .by_cases hf:jq d s
   .simp[O6,FF,hd,Xu,hf,dE]
   .simp[O6,FF,hd,Xu,hf,dE]
  .simp[O6,FF,hd,dE])
def Ix{s:Ds}(h:dE d s=0):Dv d/\jq d s:=by
 unfold dE at h;split at h
 next h1=>exact absurd h h1
 split at h
 next h1 h2=>exact⟨B5 (jf h1),h2⟩
 .cases h
noncomputable def lvl(d:Dm)(s:Ds):Int:=if dE d s=0 then lj d.r s.v else 0
def Qg(d:Dm)(s:Ds)(G:List aM):aX F 124 [dm d,dst s] G=some (.tuple [i64 (lvl d s),i64 (dE d s)],G) :=
 bD rfl rfl (by
  by_cases hd:dE d s=0
  .simp[VR,aiM,hd,awV (Ix hd).1.r,lvl]
  .simp[VR,aiM,hd,lvl])
def ayi{u:Un}{s:Us}(hv:fH u s)(q:Int):v7 u s q=if lD u s q then 0 else 15:=by
 unfold v7;rw[ax (λh=>h hv.1),ax (λh=>h hv)];by_cases h:lD u s q
 .rw[aJ h,ax (λg=>g h)]
 .rw[ax h,aJ h]
def aiO{u:Un}{s:Us}(hv:fH u s)(q:Int)(G:List aM):aX F 230 [un u,us s,i64 q] G =
  some (.tuple (if lD u s q then [us (v8 s q),.bool (decide (s.cF=0)&&decide (0<q)),i64 0] else [us ⟨0,0,false⟩,.bool false,i64 15]),G) :=
 bD rfl rfl (by
  have hc:=hv.1;have h1:=hv.2.1;have hf:0<=s.cF:=by
   rcases hv.2.2 with h | ⟨_,h⟩
   .omega
   .have:=PO hc h;omega
  have H9:min (s.since+1) 1000=min 1000 (s.since+1):=by omega
  by_cases hm:lD u s q
  .simp +contextual (disch:=omega) [Wp,vZ,WK hc,WL hv,hc,hv,hm]
   refine jb (λh=>?_) (λh=>?_)
   .have h':¬ (decide (0<s.cF)=decide (0<q)):=λe=>by rw[e]at h;simp at h
    unfold v8;rw[ax h'];exact⟨⟨rfl,rfl,rfl⟩,Bool.and_comm _ _⟩
   .have h':decide (0<s.cF)=decide (0<q):=by
     cases h1:decide (0<s.cF)<;>cases h2:decide (0<q)<;>rw[h1,h2]at h<;>first|rfl|cases h
    unfold v8;rw[aJ h'];exact⟨⟨rfl,H9,rfl⟩,Bool.and_comm _ _⟩
  .simp +contextual (disch:=omega) [Wp,vZ,WK hc,WL hv,hc,hv,hm])
structure Dr where
 inf:Int
 los:Int
 tur:Int
 spi:Int
 ovr:Int
 pow:Int
 oK:Int
 deriving Inhabited
abbrev Dr.row(r:Dr):List V:=[i64 r.inf,i64 r.los,i64 r.tur,i64 r.spi,i64 r.ovr,i64 r.pow,i64 r.oK]
abbrev dr(r:Dr):V:=.agg r.row
abbrev wk(d:Dm)(s:Ds)(nv nr:Int)(nu:List Us)(ng:V)(r:Dr)(rel left lv:Int):aM:=.cells
 [jK d.r.c,i64 d.r.d,i64 d.r.l,i64 d.r.f,i64 d.r.s,i64 d.r.t,ma d.u,lH d.g,i64 d.gr,i64 s.v,i64 s.rel,lF s.u,lq s.g,
  i64 nv,i64 nr,.eC 3 (nu.map Us.row),ng,i64 r.inf,i64 r.los,i64 r.tur,i64 r.spi,i64 r.ovr,i64 r.pow,i64 r.oK,i64 rel,i64 left,i64 lv]
def lI(d:Dm)(left:Int):Int:=max (left-Iw d) 0
def Xv(h:jz r=0)(l:Int):0<=jy r.c l/\jy r.c l<=1099511627776:=by
 have hc:=oG (vX h);have h1:=H6 hc l;have hp:=w6 (vX h);have h2:=hc.y0 0 hp;have h3:=hc.y0 (r.c.length-1) (by omega)
 omega
def Qh(h:jz d.r=0):0<=Iw d/\Iw d<=1099511627776:=Xv h _
def Qi(h:jz d.r=0):0<=mD d/\mD d<=1099511627776:=Xv h _
variable{nv nr rel left:Int}{nu:List Us}{ng:V}
def Xw(h:jz d.r=0){s:Ds}{r:Dr}{lv:Int}(hl:0<=left/\left<=4611686018427387904) :
  aX F 228 [.bu 0 0] [wk d s nv nr nu ng r rel left lv]=some (i64 (lI d left),[wk d s nv nr nu ng r rel left lv]) :=
 bD rfl rfl (by
  generalize hW:lI d left=W;have hD:jy d.r.c d.r.d=Iw d:=rfl;have h0:=Qh h;simp (disch:=omega) [agT,PL (oG (vX h)),hD];exact hW)
def Qj{g:Int}:∀{us:List Un} {ss:List Us} {F:List Int},oI g us ss F->∀i,i<us.length->nth F i∈tV (nth us i) (nth ss i) g
 |[],[],[],_=>λi hi=>by simp at hi
 |u::us,s::ss,q::F,h=>λi hi=>by
  cases i with
  |zero=>exact h.1
  |succ i=>exact Qj h.2 i (by simpa using hi)
 |[],_::_,_,h=>h.elim
 |[],[],_::_,h=>h.elim
 |_::_,[],_,h=>h.elim
 |_::_,_::_,[],h=>h.elim
def L8{us:List Un}{ss:List Us}{g release:Int}(h:mc us ss g release=0):oI g us ss (jo us ss g release)/\(jo us ss g release).sum<=release:=by
 unfold mc at h;split at h
 next h1=>exact absurd h h1
 split at h
 .cases h
 rename_i h1 h2;have h1:=jf h1;obtain⟨h3,h4,_⟩:=W6 h1;have hb:=aia h3 h4.1;unfold jo;rw[ax (λg=>g h1)];cases hr:pj (kB us ss g) release with
 |none=>exact absurd hr h2
 |some E =>
  rw[hr]at hb;exact⟨hb.oI,hb.sum⟩
noncomputable def iU(d:Dm)(s:Ds)(m:Int)(i:Nat):Int:=if mc d.u s.u d.gr m=0 then nth (jo d.u s.u d.gr m) i else 0
variable{m:Int}
def ayj{s:Ds}(hi:i<d.u.length):iU d s m i=0\/lp (nth d.u i) (nth s.u i) (iU d s m i):=by
 unfold iU;split
 next h=>
  exact .inr (Ii.1 (Qj (L8 h).1 i hi)).2
 .exact .inl rfl
def Xx{s:Ds}(hi:i<d.u.length):0<=iU d s m i/\iU d s m i<=1073741824:=by
 rcases ayj (s:=s) (m:=m) hi with h|h
 .omega
 .exact PU h
noncomputable def uZ(u:Un)(s:Us)(q:Int):Us:=if lD u s q then v8 s q else ⟨0,1,s.out⟩
def eo(f:Nat->Int):Nat->Int
 |0=>0
 |i+1=>eo f i+f i
variable{n:Nat}
def Qk{f:Nat->Int}(h:∀i,i<n->0<=f i/\f i<=1073741824):∀i,i<=n->0<=eo f i/\eo f i<=1073741824*i:=by
 intro i;induction i with
 |zero=>intro _;simp[eo]
 |succ i ih=>intro hi;have:=ih (by omega);have:=h i (by omega);simp only[eo];omega
noncomputable def ua(d:Dm)(s:Ds)(m:Int)(i:Nat):Int:=pow (nth d.u i) (iU d s m i)
noncomputable def oK(d:Dm)(s:Ds)(m:Int)(i:Nat):Int:=jN (nth s.u i) (iU d s m i)
noncomputable def rn(d:Dm)(s:Ds)(m:Int)(n:Nat):List Us:=(List.range n).map λi=>uZ (nth d.u i) (nth s.u i) (iU d s m i)
def Ql{s:Ds}:(rn d s m n).length=n:=by simp[rn]
def FG{s:Ds}:rn d s m (n+1)=rn d s m n++[uZ (nth d.u n) (nth s.u n) (iU d s m n)]:=by simp[rn,CL]
def nb(d:Dm)(rel left:Int):Int:=min (min rel (lI d left)) (200*d.gr)
variable{inf los spi ovr:Int}
set_option maxHeartbeats 1000000 in
def ayk(h:Dv d){s:Ds}(hs:jq d s){lv:Int}(hl:0<=left/\left<=4611686018427387904)(hr:0<=rel/\rel<=1073741824) :
  aX F 221 [.bu 0 0] [wk d s nv nr [] ng ⟨inf,los,0,spi,ovr,0,0⟩ rel left lv] =
   some (.tuple [],[wk d s nv nr (rn d s (nb d rel left) d.u.length) ng ⟨inf,los,eo (iU d s (nb d rel left)) d.u.length,spi,ovr,eo (ua d s (nb d rel left)) d.u.length,eo (oK d s (nb d rel left)) d.u.length⟩ rel left lv]) :=
 bD rfl rfl (by
  obtain⟨G',hb⟩:=axe d.u s.u d.gr (nb d rel left);have hgr:=h.gr;have LG:min (min rel (lI d left)) (200*d.gr)=nb d rel left:=rfl;have Xt:=h.u;have Bq:=hs.2.2.1;have xa:mc d.u s.u d.gr (nb d rel left)=0->(jo d.u s.u d.gr (nb d rel left)).length=d.u.length:=λhe=>(Fx (L8 he).1).1;generalize hM:nb d rel left=M at hb LG xa;simp (disch:=omega) [agM,Xw h.r,LG,hb];refine go_loop (λi:Nat=>avq (.bu 0 0) (.slice none 1 ((jo d.u s.u d.gr M).map λn=>[i64 n])) (mc d.u s.u d.gr M) (ma d.u) d.u.length i
   [wk d s nv nr (rn d s M i) ng ⟨inf,los,eo (iU d s M) i,spi,ovr,eo (ua d s M) i,eo (oK d s M) i⟩ rel left lv])
   (λi=>i<=d.u.length) (λi=>d.u.length-i) 0 rfl (by simp[rn,eo]) (by omega) ?_
  intro i hi;have vQ:=Ql (d:=d) (s:=s) (m:=M) (n:=i);have s1:=Qk (f:=iU d s M) (n:=d.u.length) (λi hi=>Xx hi) i hi;have s2:=Qk (f:=ua d s M) (n:=d.u.length) (λi hi=>PV) i hi;have s3:=Qk (f:=oK d s M) (n:=d.u.length) (λi hi=>by have:=W0 (s:=nth s.u i) (q:=iU d s M i);unfold oK;omega) i hi
  simp (disch:=omega) [agL];refine bO (λh5=>?_) (λh5=>?_)
  .have h5:i<d.u.length:=by omega
   have tr:i<s.u.length:=by omega
   have hv:fH (nth d.u i) (nth s.u i):=hs.2.2.2.2.1 i h5;have JY:=PV (u:=nth d.u i) (q:=iU d s M i);have vJ:=Xx (s:=s) (m:=M) h5;by_cases he:mc d.u s.u d.gr M=0
   .have xa:=xa he
    have kh:nth (jo d.u s.u d.gr M) i=iU d s M i:=by simp[iU,he]
    have hm:lD (nth d.u i) (nth s.u i) (iU d s M i):=by
     have:=Ii.1 (Qj (L8 he).1 i h5);rw[kh]at this;exact this.2.2
    have hN:=aiO hv (iU d s M i) [];rw[aJ hm]at hN;have hP:=LD (nth d.u i) (iU d s M i) [];generalize hq:iU d s M i=q at *;generalize hp:pow (nth d.u i) q=p at *;simp (config:={ maxSteps:=2000000 }) +contextual (disch:=omega) [-getElem?_pos,-List.length_eq_zero_iff,-Int.natCast_eq_zero,wrap64,bc (l:=d.u),bc (l:=s.u),dQ (l:=jo d.u s.u d.gr M),he,kh,hN,hP,vQ];have hx:uZ (nth d.u i) (nth s.u i) q=v8 (nth s.u i) q:=by simp[uZ,hm]
    refine jb (λh6=>?_) (λh6=>?_)
    .have je:oK d s M i=1:=by
      simp at h6;simp[oK,jN,hq,h6]
     refine bB (i+1) (by simp[FG,eo,ua,hq,hp,je,hx]) (by omega) (by omega)
    .have je:oK d s M i=0:=by
      have h7:¬ (0<q/\(nth s.u i).cF=0):=λh=>by rw[fJ h.1,fJ h.2]at h6;cases h6
      simp only[oK,jN,hq,ax h7]
     refine bB (i+1) (by simp[FG,eo,ua,hq,hp,je,hx]) (by omega) (by omega)
   .have hq:iU d s M i=0:=by simp[iU,he]
    have hp:pow (nth d.u i) 0=0:=by simp[pow]
    have je:oK d s M i=0:=by simp[oK,jN,hq]
    have hN:=aiO hv 0 [];have hP:=LD (nth d.u i) 0 [];rw[hp]at hP;by_cases hm:lD (nth d.u i) (nth s.u i) 0
    .rw[aJ hm]at hN
     have hx:uZ (nth d.u i) (nth s.u i) 0=v8 (nth s.u i) 0:=by simp[uZ,hm]
     simp only[Jc,decide_false,Bool.and_false]at hN;simp (config:={ maxSteps:=2000000 }) +contextual (disch:=omega) [-getElem?_pos,-List.length_eq_zero_iff,-Int.natCast_eq_zero,wrap64,bc (l:=d.u),bc (l:=s.u),he,hN,hP,vQ];refine bB (i+1) (by simp[FG,eo,ua,hq,hp,je,hx]) (by omega) (by omega)
    .rw[ax hm]at hN
     have hx:uZ (nth d.u i) (nth s.u i) 0=⟨0,1,(nth s.u i).out⟩:=by simp[uZ,hm]
     simp (config:={ maxSteps:=2000000 }) +contextual (disch:=omega) [-getElem?_pos,-List.length_eq_zero_iff,-Int.natCast_eq_zero,wrap64,bc (l:=d.u),bc (l:=s.u),he,hN,hP,vQ];refine bB (i+1) (by simp[FG,eo,ua,hq,hp,je,hx]) (by omega) (by omega)
  .obtain rfl:i=d.u.length:=by omega
   simp)
def Qm(g:List Gt)(s:List Gs)(lv w:Int):0<=qA g s lv w/\qA g s lv w<=17179869184:=by
 unfold qA;split
 next h=>
  unfold m9 at h;split at h
  next h1=>exact absurd h h1
  next h1=>
   obtain⟨h1,h2,h3,h4,h5⟩:=LW (jf h1);have:=aiz (lv:=lv) (w:=w) h2 h1 h3 h4 (i:=g.length) (b8 _);omega
 .omega
def pV(d:Dm)(rel left t:Int):Int:=min rel (lI d left)-t
noncomputable def L9(d:Dm)(s:Ds)(rel left lv t:Int):Int:=min (qA d.g s.g lv (pV d rel left t)) (lI d left-t)
variable{tur pw st:Int}
def aym(h:Dv d){s:Ds}{lv:Int}(hl:0<=left/\left<=4611686018427387904)(hr:0<=rel/\rel<=1073741824)(ht:0<=tur/\tur<=1099511627776) :
  aX F 220 [.bu 0 0] [wk d s nv nr nu ng ⟨inf,los,tur,spi,ovr,pw,st⟩ rel left lv] =
   some (.tuple [],[wk d s nv nr nu (.slice none 2 ((rj d.g s.g lv (pV d rel left tur)).map Gs.row)) ⟨inf,los,tur,L9 d s rel left lv tur,ovr,pw,st⟩ rel left lv]) :=
 bD rfl rfl (by
  obtain⟨G',hb⟩:=ax3 d.g s.g lv (pV d rel left tur);have hF:=Qm d.g s.g lv (pV d rel left tur);have hf:0<=lI d left/\lI d left<=4611686018427387904:=by
   have:=Qh h.r;unfold lI;omega
  have hW:min rel (lI d left)-tur=pV d rel left tur:=rfl;have hS:min (qA d.g s.g lv (pV d rel left tur)) (lI d left-tur)=L9 d s rel left lv tur:=rfl;have zf:=Xw h.r (s:=s) (nv:=nv) (nr:=nr) (nu:=nu) (ng:=.slice none 2 ((rj d.g s.g lv (pV d rel left tur)).map Gs.row)) (r:=⟨inf,los,tur,spi,ovr,pw,st⟩) (rel:=rel) (left:=left) (lv:=lv) hl;generalize L9 d s rel left lv tur=S at hS;generalize pV d rel left tur=W at hS hF hb hW zf;simp (disch:=omega) [agK,Xw h.r,hW,hb,hS,zf])
def ayn(h:Dv d){s:Ds}{lv:Int}(hl:0<=left/\left<=4611686018427387904)(ht:0<=tur/\tur<=1099511627776)(jm:-1099511627776<=spi/\spi<=1099511627776) :
  aX F 219 [.bu 0 0] [wk d s nv nr nu ng ⟨inf,los,tur,spi,ovr,pw,st⟩ rel left lv] =
   some (.tuple [],[wk d s (left-(tur+spi)-max (left-(tur+spi)-mD d) 0) (min (tur+spi) 1073741824) nu ng ⟨inf,los,tur,spi,max (left-(tur+spi)-mD d) 0,pw,st⟩ rel (left-(tur+spi)) lv]) :=
 bD rfl rfl (by
  have hC:=Qi h.r;simp (disch:=omega) [agJ,aiK h.r])
noncomputable def eT(s:Ds)(inf los:Int):Int:=s.v+inf-min los (s.v+inf)
noncomputable def ic(d:Dm)(s:Ds)(inf los rel:Int):Int:=eo (iU d s (nb d rel (eT s inf los))) d.u.length
noncomputable def nM(d:Dm)(s:Ds)(inf los rel:Int):Int:=L9 d s rel (eT s inf los) (lj d.r s.v) (ic d s inf los rel)
noncomputable def wg(d:Dm)(s:Ds)(inf los rel:Int):Int:=max (eT s inf los-(ic d s inf los rel+nM d s inf los rel)-mD d) 0
noncomputable def nN(d:Dm)(s:Ds)(inf los rel:Int):Dr:=⟨inf,min los (s.v+inf),ic d s inf los rel,nM d s inf los rel,wg d s inf los rel,eo (ua d s (nb d rel (eT s inf los))) d.u.length,eo (oK d s (nb d rel (eT s inf los))) d.u.length⟩
noncomputable def oe(d:Dm)(s:Ds)(inf los rel:Int):Ds:=⟨eT s inf los-(ic d s inf los rel+nM d s inf los rel)-wg d s inf los rel,min (ic d s inf los rel+nM d s inf los rel) 1073741824,
 rn d s (nb d rel (eT s inf los)) d.u.length,rj d.g s.g (lj d.r s.v) (pV d rel (eT s inf los) (ic d s inf los rel))⟩
def aiP(h:Dv d){s:Ds}:0<=ic d s inf los rel/\ic d s inf los rel<=6442450944:=by
 have h1:=Qk (f:=iU d s (nb d rel (eT s inf los))) (n:=d.u.length) (λi hi=>Xx hi) d.u.length (b8 _);have h2:=h.u;unfold ic;omega
def Xy{C:bI}{args:List V}{f:FuncId}{fs:List FuncId}{G G':List aM}{r:V}{o:Option (List aM)}(h1:C f args G=some (r,G'))(h2:sN C args fs G'=o):sN C args (f::fs) G=o:=by
 simp only[sN,h1,h2]
abbrev wk0(d:Dm)(s:Ds)(inf los rel lv:Int):aM:=.cells
 [jK d.r.c,i64 d.r.d,i64 d.r.l,i64 d.r.f,i64 d.r.s,i64 d.r.t,ma d.u,lH d.g,i64 d.gr,i64 s.v,i64 s.rel,lF s.u,lq s.g,
  i64 0,i64 0,.eC 3 [],.eC 2 [],i64 inf,i64 los,i64 0,i64 0,i64 0,i64 0,i64 0,i64 rel,i64 0,i64 lv]
def ayo(h:Dv d){s:Ds}(hs:jq d s)(hi:0<=inf/\inf<=1073741824)(hl:0<=los/\los<=1073741824)(hr:0<=rel/\rel<=1073741824) :
  ∃lf,aX F 211 [.bu 0 0] [wk0 d s inf los rel (lj d.r s.v)] =
   some (.tuple [],[wk d s (oe d s inf los rel).v (oe d s inf los rel).rel (oe d s inf los rel).u (.slice none 2 ((oe d s inf los rel).g.map Gs.row)) (nN d s inf los rel) rel lf (lj d.r s.v)]):=by
 suffices hh:∀Q:V->List aM->Prop,(∀lf,Q (.tuple []) [wk d s (oe d s inf los rel).v (oe d s inf los rel).rel (oe d s inf los rel).u (.slice none 2 ((oe d s inf los rel).g.map Gs.row)) (nN d s inf los rel) rel lf (lj d.r s.v)])->gz (aX F) 211 [.bu 0 0] [wk0 d s inf los rel (lj d.r s.v)] Q by
  obtain⟨_,G',h,lf,rfl,rfl⟩:=hh (λv G'=>∃lf,v=.tuple []/\G'=[wk d s (oe d s inf los rel).v (oe d s inf los rel).rel (oe d s inf los rel).u (.slice none 2 ((oe d s inf los rel).g.map Gs.row)) (nN d s inf los rel) rel lf (lj d.r s.v)]) λlf=>⟨lf,rfl,rfl⟩;exact⟨lf,h⟩
 intro Q hQ;refine ao1 rfl rfl ?_;have hv:=hs.1;have hC:=Qi h.r;simp (disch:=omega) [agB];have hL:0<=eT s inf los/\eT s inf los<=4611686018427387904:=by unfold eT;omega
 have hT:=aiP h (s:=s) (inf:=inf) (los:=los) (rel:=rel);have hP:-1099511627776<=nM d s inf los rel/\nM d s inf los rel<=1099511627776:=by
  have h1:=Qm d.g s.g (lj d.r s.v) (pV d rel (eT s inf los) (ic d s inf los rel));have h2:0<=lI d (eT s inf los):=by unfold lI;omega
  unfold nM L9;omega
 have h1:=ayk h hs (nv:=0) (nr:=0) (inf:=inf) (los:=min los (s.v+inf)) (spi:=0) (ovr:=0) (rel:=rel) (left:=eT s inf los) (lv:=lj d.r s.v) (ng:=.eC 2 []) hL hr;have h2:=aym h (s:=s) (nv:=0) (nr:=0) (nu:=rn d s (nb d rel (eT s inf los)) d.u.length) (ng:=.eC 2 []) (inf:=inf) (los:=min los (s.v+inf)) (tur:=ic d s inf los rel) (spi:=0) (ovr:=0)
  (pw:=eo (ua d s (nb d rel (eT s inf los))) d.u.length) (st:=eo (oK d s (nb d rel (eT s inf los))) d.u.length) (rel:=rel) (left:=eT s inf los) (lv:=lj d.r s.v) hL hr (by omega)
 have h3:=ayn h (s:=s) (nv:=0) (nr:=0) (nu:=rn d s (nb d rel (eT s inf los)) d.u.length) (ng:=.slice none 2 ((rj d.g s.g (lj d.r s.v) (pV d rel (eT s inf los) (ic d s inf los rel))).map Gs.row)) (inf:=inf) (los:=min los (s.v+inf)) (tur:=ic d s inf los rel) (spi:=nM d s inf los rel) (ovr:=0)
  (pw:=eo (ua d s (nb d rel (eT s inf los))) d.u.length) (st:=eo (oK d s (nb d rel (eT s inf los))) d.u.length) (rel:=rel) (left:=eT s inf los) (lv:=lj d.r s.v) hL (by omega) hP
 exact⟨_,Xy h1 (Xy h2 (Xy h3 rfl)),hQ _⟩
def ayp(n:Int)(G:List aM):aX F 210 [i64 n] G=some (.bool (!decide (0<=n/\n<=1073741824)),G) :=
 bD rfl rfl (by
  simp[agA,dZ])
def ayq(l:List Int)(hl:l.length<=1000)(p:Int->Bool)(f:FuncId)(G:List aM)(h:∀n,aX F f [i64 n] G=some (.bool (p n),G)) :
  ∃k:Int,(decide (0<=k)=l.any p)/\aX F 65 [ints l,.fn f []] G=some (i64 k,G):=by
 suffices hh:∀Q:V->List aM->Prop,(∀k:Int,decide (0<=k)=l.any p->Q (i64 k) G)->gz (aX F) 65 [ints l,.fn f []] G Q by
  obtain⟨_,G',h,k,h1,rfl,rfl⟩:=hh (λv G'=>∃k:Int,decide (0<=k)=l.any p/\v=i64 k/\G'=G) λk hk=>⟨k,hk,rfl,rfl⟩;exact⟨k,h1,h⟩
 intro Q hQ;refine gN rfl rfl ?_;simp (disch:=omega) [-getElem?_pos,aeb];refine go_loop (λi:Nat=>ash (ints l) (.fn f []) l.length i G) (λi=>i<=l.length/\∀x∈l.take i,p x=false) (λi=>l.length-i) 0 rfl (by simp) ⟨by omega,by simp⟩ ?_
 rintro i ⟨hi,hp⟩;simp (disch:=omega) [-getElem?_pos,aea];refine bO (λh5=>?_) (λh5=>?_)
 .have h5:i<l.length:=by omega
  simp (disch:=omega) [-getElem?_pos,dQ (l:=l),h];refine jb (λh6=>?_) (λh6=>?_)
  .refine hQ _ ?_
   rw[fJ (by omega)]
   exact(Jh.2 ⟨_,tY h5,h6⟩).symm
  .refine bB' (i+1) ⟨by omega,?_⟩
   intro x hx;rw[jV h5]at hx;rcases ka.1 hx with hx|hx
   .exact hp x hx
   .rw[qf.1 hx];exact h6
 .obtain rfl:i=l.length:=by omega
  refine hQ _ ?_;rw[mL]at hp;rw[show l.any p=false from py.2 λx hx=>by rw[hp x hx];simp]
  rfl
def Qn(l:List Int)(hl:l.length<=1000)(p:Int->Bool)(f:FuncId)(G:List aM)(h:∀n,aX F f [i64 n] G=some (.bool (p n),G)) :
  aX F 34 [ints l,.fn f []] G=some (.bool (l.any p),G) :=
 bD rfl rfl (by
  obtain⟨k,h1,h2⟩:=ayq l hl p f G h;simp[adB,h2];exact h1)
def AP(n:Int):Bool:=!decide (0<=n/\n<=1073741824)
noncomputable def qC(d:Dm)(s:Ds)(inf los rel:Int):Int:=if dE d s≠0 then dE d s else if [inf,los,rel].any AP then 1 else 0
noncomputable def wh(d:Dm)(s:Ds)(inf los rel:Int):V:=.tuple (if qC d s inf los rel=0 then [dst (oe d s inf los rel),dr (nN d s inf los rel),i64 0] else [.agg [i64 0,i64 0,.slice (some 0) 3 [],.slice (some 0) 2 []],dr ⟨0,0,0,0,0,0,0⟩,i64 (qC d s inf los rel)])
def ayr(d:Dm)(s:Ds)(inf los rel:Int):∃G',aX F 190 [dm d,dst s,i64 inf,i64 los,i64 rel] []=some (wh d s inf los rel,G'):=by
 suffices h:∀Q:V->List aM->Prop,(∀G',Q (wh d s inf los rel) G')->gz (aX F) 190 [dm d,dst s,i64 inf,i64 los,i64 rel] [] Q by
  obtain⟨_,G',h,rfl⟩:=h (λv G'=>v=wh d s inf los rel) λ_=>rfl;exact⟨G',h⟩
 intro Q hQ;refine gN rfl rfl ?_;have hc:aX F 34 [.slice none 1 [[i64 inf],[i64 los],[i64 rel]],.fn 210 []] []=some (.bool ([inf,los,rel].any AP),[]) :=
  Qn [inf,los,rel] (by simp) AP 210 [] (λn=>ayp n [])
 unfold wh qC at hQ;generalize hx:[inf,los,rel].any AP=x at hc hQ;by_cases hd:dE d s=0
 .obtain⟨ub,Hu⟩:=Ix hd
  have wH:lvl d s=lj d.r s.v:=by simp[lvl,hd]
  simp only[hd,ne_eq,not_true_eq_false,if_false]at hQ;cases x with
  |true =>
   simp only[if_true,ax (show ¬ (1:Int)=0 by omega)]at hQ
   simp[Pm,Qg,hd,wH,hc];exact hQ _
  |false =>
   simp only[AP,Jg,Ji,Ja,RH,Zf,jD]at hx;obtain⟨lf,hr⟩:=ayo ub Hu hx.1 hx.2.1 hx.2.2;simp[Pm,Qg,hd,wH,hc,hr];exact hQ _
 .simp only[hd,ne_eq,not_false_eq_true,if_true,if_false]at hQ
  simp[Pm,Qg,hd];exact hQ _
end
variable{c:List Pt}
def Ma(h:Cv c):∀{i j:Nat},i<=j->j<c.length->(nth c i).x<=(nth c j).x:=by
 intro i j;induction j with
 |zero=>intro h1 _;obtain rfl:i=0:=by omega
        omega
 |succ j ih =>
  intro h1 h2;rcases cS i (j+1) with h3|h3
  .have:=ih (by omega) (by omega)
   have:=h.up (j+1) (by omega) h2
   simp only[rW]at this;omega
  .obtain rfl:i=j+1:=by omega
   omega
def aiR(h:Cv c){y:Int}{i:Nat}(hi:i+1<c.length)(h1:(nth c i).y<=y)(h2:y<(nth c (i+1)).y):(nth c i).x<=Fp c y i/\Fp c y i<=(nth c (i+1)).x:=by
 have u1:=h.up (i+1) (by omega) hi
 simp only[rW]at u1;have a1:(y-(nth c i).y+1)*((nth c (i+1)).x-(nth c i).x)<=((nth c (i+1)).y-(nth c i).y)*((nth c (i+1)).x-(nth c i).x):=Eg (by omega) (by omega)
 have a2:0<(y-(nth c i).y+1)*((nth c (i+1)).x-(nth c i).x):=RN (by omega) (by omega)
 unfold Fp;rw[uh (by omega)]
 have b1:0<=((y-(nth c i).y+1)*((nth c (i+1)).x-(nth c i).x)-1) / ((nth c (i+1)).y-(nth c i).y):=Jb (by omega) (by omega)
 have b2:((y-(nth c i).y+1)*((nth c (i+1)).x-(nth c i).x)-1) / ((nth c (i+1)).y-(nth c i).y)<=(nth c (i+1)).x-(nth c i).x:=by
  refine CE (Int.ediv_le_ediv (by omega) (show _<=((nth c (i+1)).x-(nth c i).x)*((nth c (i+1)).y-(nth c i).y) by rw[MY ((nth c (i+1)).x-(nth c i).x)];omega)) ?_
  rw[Int.mul_ediv_cancel _ (by omega)]
  exact vk _
 omega
def Xz{c:List Pt}(h:Cv c){y:Int}:∀(m i:Nat),i+m=c.length-1->(nth c i).y<=y->(nth c 0).x<=uU c y m i/\uU c y m i<=(nth c (c.length-1)).x
 |0,i,hi,_=>by
  have hp:=h.pos;have:=Ma h (i:=0) (j:=c.length-1) (by omega) (by omega)
  unfold uU;omega
 |m+1,i,hi,hy=>by
  have hp:=h.pos;unfold uU;split
  next h2=>
   have h3:=aiR h (i:=i) (by omega) hy h2
   have:=Ma h (i:=0) (j:=i) (by omega) (by omega)
   have:=Ma h (i:=i+1) (j:=c.length-1) (by omega) (by omega)
   omega
  .exact Xz h m (i+1) (by omega) (by omega)
def aiS{r:Rs}(h:jz r=0)(v:Int):0<=lj r v/\lj r v<=16777216:=by
 have hs:=Qf h;have hc:=oG hs.c;have hp:=hc.pos;have:=hs.top;have h0:=hc.x0 0 hp;have h1:=Ma hc (i:=0) (j:=r.c.length-1) (by omega) (by omega)
 unfold lj;split
 .omega
 .have:=Xz hc (y:=v) (r.c.length-1) 0 (by omega) (by omega)
  unfold AI;omega
def ays{d:Dm}{s:Ds}(h:Dv d)(hf:jq d s):aE d.g s.g (lj d.r s.v)=0:=by
 have hr:=aiS h.r s.v;have hg:=h.g;have hl:=hf.2.2.2.1;unfold aE;rw[ax',ax',ax (λg=>g hf.2.2.2.2.2),ax (λg=>g (vU λi _ hi=>h.gv i (by omega))),ax']
def XA(l:List Int):∀i,i<=l.length->eo (λj=>nth l j) i=(l.take i).sum
 |0,_=>by simp[eo]
 |i+1,h=>by
  rw[jV (by omega),Nc,<- XA l i (by omega)]
  simp[eo]
def XB:∀i,eo (λ_=>0) i=0
 |0=>rfl
 |i+1=>by simp[eo,XB i]
def ayt{d:Dm}(s:Ds){m:Int}(hm:0<=m):eo (iU d s m) d.u.length<=m:=by
 by_cases he:mc d.u s.u d.gr m=0
 .obtain⟨h1,h2⟩:=L8 he
  have hl:=(Fx h1).1;have:iU d s m=λj=>nth (jo d.u s.u d.gr m) j:=by funext j;simp[iU,he]
  rw[this,XA _ _ (by omega),kD (by omega)]
  exact h2
 .have:iU d s m=λ_=>0:=by funext j;simp[iU,he]
  rw[this,XB];exact hm
structure Stp(d:Dm)(s:Ds)(inf los rel:Int):Prop where
 L:eT s inf los=max 0 (s.v+inf-los)
 T0:0<=ic d s inf los rel
 Tr:ic d s inf los rel<=rel
 Tf:ic d s inf los rel<=lI d (eT s inf los)
 P0:0<=nM d s inf los rel
 sum:ic d s inf los rel+nM d s inf los rel<=lI d (eT s inf los)
 P1:nM d s inf los rel<=17179869184
 w0:0<=pV d rel (eT s inf los) (ic d s inf los rel)/\pV d rel (eT s inf los) (ic d s inf los rel)<=1073741824
def XC{d:Dm}(h:Dv d){s:Ds}(hf:jq d s){inf los rel:Int}(hi:0<=inf/\inf<=1073741824)(hl:0<=los/\los<=1073741824)(hr:0<=rel/\rel<=1073741824):Stp d s inf los rel:=by
 have hv:=hf.1;have hg:=h.gr;have vJ:0<=lI d (eT s inf los):=by unfold lI;omega
 have hm:0<=nb d rel (eT s inf los):=by unfold nb;omega
 have h1:=ayt (d:=d) s hm;have h2:=aiP h (s:=s) (inf:=inf) (los:=los) (rel:=rel);have h3:ic d s inf los rel<=nb d rel (eT s inf los):=h1;have h4:=Qm d.g s.g (lj d.r s.v) (pV d rel (eT s inf los) (ic d s inf los rel));have h5:nM d s inf los rel=min (qA d.g s.g (lj d.r s.v) (pV d rel (eT s inf los) (ic d s inf los rel))) (lI d (eT s inf los)-ic d s inf los rel):=rfl;unfold nb at h3;refine⟨by unfold eT;omega,h2.1,by omega,by omega,by omega,by omega,by omega,?_⟩
 unfold pV;omega
section
attribute [local simp] mX mY lX mW
def ayv(r:Dr)(ht:0<=r.tur/\r.tur<=1099511627776)(hs:0<=r.spi/\r.spi<=1099511627776)(ho:0<=r.ovr/\r.ovr<=1099511627776)(G:List aM):aX F 191 [dr r] G=some (i64 (r.tur+r.spi+r.ovr),G) :=
 bD rfl rfl (by
  simp (disch:=omega) [agi])
def ayw{l:List Int}(h:l.length=5):∃a b c d e,l=[a,b,c,d,e]:=by
 match l,h with
 |[a,b,c,d,e],_=>exact⟨a,b,c,d,e,rfl⟩
variable{v:Int}
def Mb{l:List Int}{i j:Nat}(h:i<l.length):nth (l.set i v) j=if i=j then v else nth l j:=by
 simp only[nth,List.getD,lM];by_cases e:i=j
 .subst e;simp[h]
 .simp[e]
def ayx{c:List Pt}{x y dx dy:Int}(h:Cw c x y dx dy 1)(h2:2<=c.length)(hx:0<=x/\x<=1000)(hy:0<=y/\y<=1000)(PJ:0<=dx/\dx<=1000)(H5:0<=dy/\dy<=1000)
  {a1 a2 a3 a4 a5:Int} (l1:x<=a1) (l2:a1<=a2) (l3:a2<=a3) (l4:a3<=a4) (l5:a4<=a5) (l6:a5<=(nth c (c.length-1)).x):jz ⟨c,a1,a2,a3,a4,a5⟩=0:=by
 have hc:=h.nI hx hy PJ H5 (by omega)
 have hf:=h.l8;have hu:=h.up hx hy PJ H5 (by omega) (c.length-1) (by omega)
 have h0:(nth c 0).x=x:=by rw[h.first]
 unfold jz;simp only;rw[ax (λg=>g hc),ax',ax',aJ,vU]
 .intro i WI fN
  have:i=1\/i=2\/i=3\/i=4\/i=5\/i=6:=by omega
  rcases this with rfl|rfl|rfl|rfl|rfl|rfl<;>simp only[ti,vW,nth,List.getD,CI,Jl,Nm]<;>refine ax ?_
  .have:(nth c 0).x<=a1:=by omega
   simp only[nth,List.getD]at this;simp;omega
  .simp;omega
  .simp;omega
  .simp;omega
  .simp;omega
  .simp only[nth,List.getD]at l6;simp;omega
 .refine vU λi WI fN=>?_
  have:=h.step i (by omega) (by omega)
  exact ax (by omega)
variable{k:Nat}
def ayy{l:List Int}(hd:dz l k):∃r k',aX F 96 [.bu 0 0] [dk l k]=some (.agg r.cells,[dk l k'])/\dz l k'/\jz r=0/\(nth r.c (r.c.length-1)).y<=10000:=by
 suffices h:∀Q:V->List aM->Prop,(∀r k',dz l k'->jz r=0->(nth r.c (r.c.length-1)).y<=10000->Q (.agg r.cells) [dk l k'])->gz (aX F) 96 [.bu 0 0] [dk l k] Q by
  obtain⟨_,_,h,r,k',rfl,rfl,h1⟩:=h (λv G=>∃r k',v=.agg r.cells/\G=[dk l k']/\dz l k'/\jz r=0/\(nth r.c (r.c.length-1)).y<=10000) λr k' a b c=>⟨r,k',rfl,rfl,a,b,c⟩;exact⟨r,k',h,h1⟩
 intro Q hQ;refine gN rfl rfl ?_;obtain⟨a1,k1,n1,iD,WW⟩:=fG hd 10 (by omega)
 obtain⟨a2,k2,n2,fu,WX⟩:=fG iD 20 (by omega)
 obtain⟨c,k3,n3,l9,kz,hc⟩:=WV fu (x:=100+a1) (y:=a2) (dx:=40) (dy:=200) true (by omega) (by omega) (by omega) (by omega)
 simp only[if_true]at hc;have hu:=hc.up (by omega) (by omega) (by omega) (by omega) (by omega)
 have hf:=hc.l8;have h0:(nth c 0).x=100+a1:=by rw[hc.first]
 have hu1:=hu (c.length-1) (by omega)
 have ahu:(nth c 0).x<=(nth c (c.length-1)).x:=by
  have:∀i,i<c.length->(nth c 0).x<=(nth c i).x:=by
   intro i;induction i with
   |zero=>intro _;omega
   |succ i ih=>intro hi;have:=ih (by omega);have:=hc.step (i+1) (by omega) hi;simp only[rW]at this;omega
  exact this _ (by omega)
 have h3:((c.length:Int)-1).toNat=c.length-1:=by omega
 have h5:0<=(c.length:Int)-1:=by omega
 simp (disch:=omega) [-getElem?_pos,aeJ,n1,n2,n3,bc (l:=c),h3,h5];refine go_loop (λs:Nat×Int×List Int×Nat=>asZ (.bu 0 0) s.2.1 (nth c (c.length-1)).x s.1 [.cj,i64 0,i64 0,i64 0,i64 0,i64 0] [jK c,i64 0,i64 0,i64 0,i64 0,i64 0] (dM s.2.2.1) [dk l s.2.2.2])
  (λs=>s.1<=5/\s.2.2.1.length=5/\(100+a1<=s.2.1/\s.2.1<=(nth c (c.length-1)).x)/\(∀j,j<s.1->100+a1<=nth s.2.2.1 j)/\(∀i j,i<=j->j<s.1->nth s.2.2.1 i<=nth s.2.2.1 j)/\(∀j,j<s.1->nth s.2.2.1 j<=s.2.1)/\dz l s.2.2.2)
  (λs=>5-s.1) (0,100+a1,[0,0,0,0,0],k3) rfl (by simp[dM,h0]) ⟨by simp,by simp,⟨by simp,by simp only;omega⟩,by simp,by simp,by simp,l9⟩ ?_
 rintro⟨i,at',ls,k⟩ ⟨hi,Mc,⟨b1,b2⟩,h6,h7,h8,hd⟩;simp only at hi Mc b1 b2 h6 h7 h8 hd;simp (disch:=omega) [-getElem?_pos,aeI];refine bO (λh9=>?_) (λh9=>?_)
 .have h9:i<5:=by omega
  have cy:¬ (5:Int)-i=0:=by omega
  have hq0:0<=((nth c (c.length-1)).x-at').tdiv (5-i):=z6 (by omega) (by omega)
  have Um:((nth c (c.length-1)).x-at').tdiv (5-i)<=(nth c (c.length-1)).x-at':=Eh _ (by omega)
  obtain⟨p,k4,n4,tl,hp⟩:=fG hd (((nth c (c.length-1)).x-at').tdiv (5-i)+1) (by omega)
  simp (disch:=omega) [-getElem?_pos,n4,cy];refine bB (i+1,at'+p,ls.set i (at'+p),k4) (by simp) ⟨by simp only;omega,by simp[Mc],⟨by simp only;omega,by simp only;omega⟩,?_,?_,?_,tl⟩ (by simp only;omega)
  .intro j hj
   simp only at hj ⊢;rw[Mb (by omega)]
   split
   .omega
   .exact h6 j (by omega)
  .intro i' j uT hj
   simp only at hj ⊢;rw[Mb (by omega),Mb (by omega)]
   by_cases e1:i=j
   .rw[aJ e1]
    split
    .omega
    .have:=h8 i' (by omega);omega
   .rw[ax e1,ax']
    exact h7 i' j uT (by omega)
  .intro j hj
   simp only at hj ⊢;rw[Mb (by omega)]
   split
   .omega
   .have:=h8 j (by omega);omega
 .obtain rfl:i=5:=by omega
  obtain⟨e1,e2,e3,e4,e5,rfl⟩:=ayw Mc;simp (disch:=omega) [-getElem?_pos,dM];have q1:=h6 0 (by omega)
  have q2:=h7 0 1 (by omega) (by omega)
  have q3:=h7 1 2 (by omega) (by omega)
  have q4:=h7 2 3 (by omega) (by omega)
  have q5:=h7 3 4 (by omega) (by omega)
  have q6:=h8 4 (by omega)
  exact hQ ⟨c,e1,e2,e3,e4,e5⟩ k hd (ayx hc kz (by omega) (by omega) (by omega) (by omega) q1 q2 q3 q4 q5 (CE q6 b2)) (by simp only;omega)
structure Gw(l:List Rt):Prop where
 cw:∀i,i<l.length->Cw (nth l i).c 0 0 6 20 0
 lv:∀i,i<l.length->0<=(nth l i).lv/\(nth l i).lv<=1000
 up:∀i,0<i->i<l.length->(nth l (i-1)).lv<(nth l i).lv
def Gw.nI{l:List Rt}(h:Gw l)(h1:1<=l.length)(h2:l.length<=3){m:Int}(hm:0<=m/\m<=1000)(hv:0<=v/\v<=1000):mb ⟨l,m,v⟩=0:=by
 unfold mb;simp only;rw[ax',ax',ax,ax']
 refine λhn=>hn (vU λi _ hi=>?_);have hi:i<l.length:=by omega
 have hc:=h.cw i hi;have hl:=h.lv i hi;have hp:=hc.pos;have hf:=hc.l8;have hu:=hc.up (by omega) (by omega) (by omega) (by omega) (by omega) ((nth l i).c.length-1) (by omega)
 have h0:(nth (nth l i).c 0).x=0/\(nth (nth l i).c 0).y=0:=by rw[hc.first];exact⟨rfl,rfl⟩
 unfold rf;rw[ax',ax,ax (λg=>g (hc.nI (by omega) (by omega) (by omega) (by omega) (by omega))),ax (λg=>g h0),ax']
 rintro⟨h3,h4⟩;have:=h.up i h3 hi;omega
def Gw.snoc{l:List Rt}(h:Gw l){r:Rt}(hc:Cw r.c 0 0 6 20 0)(hl:0<=r.lv/\r.lv<=1000)(hu:0<l.length->(nth l (l.length-1)).lv<r.lv):Gw (l++[r]):=by
 refine⟨λi hi=>?_,λi hi=>?_,λi h0 hi=>?_⟩
 .simp at hi
  rw[jM];split
  .exact h.cw i (by assumption)
  .rw[aJ'];exact hc
 .simp at hi
  rw[jM];split
  .exact h.lv i (by assumption)
  .rw[aJ'];exact hl
 .simp at hi
  rw[jM,jM,aJ']
  split
  .exact h.up i h0 (by assumption)
  .obtain rfl:i=l.length:=by omega
   rw[aJ rfl];exact hu h0
abbrev XE(g:Gt):V:=.agg [.slice (some 0) 2 (g.r.map Rt.row),i64 g.dF,i64 g.move]
def ayz{l:List Int}(hd:dz l k):∃g k',aX F 144 [.bu 0 0] [dk l k]=some (XE g,[dk l k'])/\dz l k'/\mb g=0:=by
 suffices h:∀Q:V->List aM->Prop,(∀g k',dz l k'->mb g=0->Q (XE g) [dk l k'])->gz (aX F) 144 [.bu 0 0] [dk l k] Q by
  obtain⟨_,_,h,r,k',rfl,rfl,h1⟩:=h (λv G=>∃r k',v=XE r/\G=[dk l k']/\dz l k'/\mb r=0) λr k' a b=>⟨r,k',rfl,rfl,a,b⟩;exact⟨r,k',h,h1⟩
 intro Q hQ;refine gN rfl rfl ?_;obtain⟨a1,k1,n1,iD,WW⟩:=fG hd 12 (by omega)
 obtain⟨a2,k2,n2,fu,WX⟩:=fG iD 6 (by omega)
 obtain⟨a3,k3,n3,l9,ha3⟩:=fG fu 40 (by omega)
 obtain⟨a4,k4,n4,tl,ha4⟩:=fG l9 3 (by omega)
 simp (disch:=omega) [afB,n1,n2,n3,n4];refine go_loop (λs:List Rt×Int×Int×Nat=>aun (.bu 0 0) s.2.1 s.2.2.1 [.cj,i64 0,i64 0] [.slice (some 1027) 2 (s.1.map Rt.row),i64 a1,i64 a2] s.1.length [dk l s.2.2.2])
  (λs=>Gw s.1/\(s.1.length:Int)+s.2.2.1<=2 /\ -1<=s.2.2.1/\(1<=s.1.length\/0<=s.2.2.1)/\(0<=s.2.1/\s.2.1<=130+50*s.1.length)/\(0<s.1.length->(nth s.1 (s.1.length-1)).lv<s.2.1)/\dz l s.2.2.2) (λs=>(s.2.2.1+1).toNat)
  ([],90+a3,a4,k4) rfl (by simp) ⟨⟨by simp,by simp,by simp⟩,by simp;omega,by simp only;omega,by simp only;omega,by simp;omega,by simp,tl⟩ ?_
 rintro⟨r,lv,m,k⟩ ⟨hr,h1,h2,h3,h4,h5,hd⟩;simp only at h1 h2 h3 h4 h5 hd hr;obtain⟨c,k5,n5,AL,kz,hc⟩:=WV hd (x:=0) (y:=0) (dx:=6) (dy:=20) false (by omega) (by omega) (by omega) (by omega)
 obtain⟨a6,k6,n6,BU,ha6⟩:=fG AL 40 (by omega)
 simp (disch:=omega) [afA];refine bO (λh6=>?_) (λh6=>?_)
 .simp (disch:=omega) [n5,n6]
  refine bB (r++[⟨lv,c⟩],lv+(1+a6),m-1,k6) (by simp) ⟨hr.snoc hc (by simp only;omega) h5,by simp;omega,by simp only;omega,by simp,by simp;omega,by simp[jM];omega,BU⟩ (by simp only;omega)
 .exact hQ ⟨r,a1,a2⟩ k hd (hr.nI (by omega) (by omega) (by omega) (by omega))
abbrev XF(l:List Gt):V:=.slice (some 0) 3 (l.map Gt.row)
abbrev Qo(l:List Gs):V:=.slice (some 0) 2 (l.map Gs.row)
structure Qp(a:List Gt)(b:List Gs):Prop where
 len:a.length=b.length
 gate:∀i,i<a.length->mb (nth a i)=0
 state:∀i,i<a.length->pU (nth a i) (nth b i)
def ayA{l:List Int}(hd:dz l k){m:Nat}(hm:m<=1000):∃a b k',aX F 98 [.bu 0 0,i64 m] [dk l k]=some (.tuple [XF a,Qo b],[dk l k'])/\dz l k'/\Qp a b/\a.length<=m:=by
 suffices h:∀Q:V->List aM->Prop,(∀a b k',dz l k'->Qp a b->a.length<=m->Q (.tuple [XF a,Qo b]) [dk l k'])->gz (aX F) 98 [.bu 0 0,i64 m] [dk l k] Q by
  obtain⟨_,_,h,a,b,k',rfl,rfl,h1⟩:=h (λv G=>∃a b k',v=.tuple [XF a,Qo b]/\G=[dk l k']/\dz l k'/\Qp a b/\a.length<=m) λa b k' h1 h2 h3=>⟨a,b,k',rfl,rfl,h1,h2,h3⟩;exact⟨a,b,k',h,h1⟩
 intro Q hQ;refine gN rfl rfl ?_;obtain⟨n,k1,n1,iD,hn⟩:=fG hd (m+1) (by omega)
 simp (disch:=omega) [aeN,n1];refine go_loop (λs:List Gt×List Gs×Int×Nat=>as4 (.bu 0 0) (.slice (some 1023) 3 (s.1.map Gt.row)) (.slice (some 1035) 2 (s.2.1.map Gs.row)) s.2.2.1 s.1.length s.2.1.length [dk l s.2.2.2])
  (λs=>Qp s.1 s.2.1/\(s.1.length:Int)+s.2.2.1<=m/\0<=s.2.2.1/\dz l s.2.2.2) (λs=>s.2.2.1.toNat) ([],[],n,k1) rfl (by simp) ⟨⟨rfl,by simp,by simp⟩,by simp;omega,by simp;omega,iD⟩ ?_
 rintro⟨a,b,n,k⟩ ⟨tU,h1,h2,hd⟩;simp only at tU h1 h2 hd;obtain⟨g,k2,n2,fu,hg⟩:=ayz hd;have hgv:=(ais hg).dF;obtain⟨p,k3,n3,l9,hp⟩:=fG fu (g.dF+1) (by omega)
 obtain⟨q,k4,n4,tl,hq⟩:=fG l9 7 (by omega)
 have hl:=tU.len;simp (disch:=omega) [aeM];refine bO (λh4=>?_) (λh4=>?_)
 .simp (disch:=omega) [n2,n3,n4]
  refine bB (a++[g],b++[⟨p,decide (q=6)⟩],n-1,k4) (by simp) ⟨⟨by simp[hl],λi hi=>?_,λi hi=>?_⟩,by simp;omega,by simp;omega,tl⟩ (by simp;omega)
  .simp at hi
   rw[jM];split
   .exact tU.gate i (by assumption)
   .rw[aJ'];exact hg
  .simp at hi
   rw[jM,jM,<- hl];split
   .exact tU.state i (by assumption)
   .rw[aJ',aJ']
    show 0<=p/\p<=g.dF;omega
 .exact hQ a b k hd tU (by omega)
structure Dw(d:Dm)(s:Ds):Prop where
 nI:gD d=0
 fit:jq d s
 aH9:LJ d.u s.u
 u2:d.u.length<=2
 g2:d.g.length<=2
 gr:1<=d.gr/\d.gr<=4
 rel:0<=s.rel/\s.rel<=29
 top:mD d<=10000
def ayB{l:List Int}(hd:dz l k):∃d s k',aX F 60 [.bu 0 0] [dk l k]=some (.tuple [dm d,dst s],[dk l k'])/\dz l k'/\Dw d s:=by
 suffices h:∀Q:V->List aM->Prop,(∀d s k',dz l k'->Dw d s->Q (.tuple [dm d,dst s]) [dk l k'])->gz (aX F) 60 [.bu 0 0] [dk l k] Q by
  obtain⟨_,_,h,d,s,k',rfl,rfl,h1⟩:=h (λv G=>∃d s k',v=.tuple [dm d,dst s]/\G=[dk l k']/\dz l k'/\Dw d s) λd s k' a b=>⟨d,s,k',rfl,rfl,a,b⟩;exact⟨d,s,k',h,h1⟩
 intro Q hQ;refine gN rfl rfl ?_;obtain⟨r,k1,n1,iD,hr,hry⟩:=ayy hd;obtain⟨a,k2,n2,fu,ha⟩:=fG iD 4 (by omega)
 obtain⟨us,ss,k3,n3,l9,qN,OT⟩:=aw3 (m:=2) fu (by omega)
 obtain⟨gs,ts,k4,n4,tl,sW,Kd⟩:=ayA (m:=2) l9 (by omega)
 rw[show((2:Nat):Int)=2 from rfl]at n3 n4;have hv:=Xv hr r.t;have we:=Xr hr;obtain⟨v,k5,n5,AL,hv5⟩:=fG tl (jy r.c r.t+1) (by omega)
 obtain⟨e,k6,n6,BU,he6⟩:=fG AL 30 (by omega)
 have hV:=PM r r.t [];simp (disch:=omega) [ad6,n1,n2,n3,n4,hV,we,hr,n5,n6];refine hQ ⟨r,us,gs,1+a⟩ ⟨v,e,ss,ts⟩ k6 BU ?_;have hc:gD ⟨r,us,gs,1+a⟩=0:=by
  unfold gD;simp only;rw[ax (λg=>g hr),ax',ax (λg=>g (vU λi _ hi=>(qN.unit i (by omega)).nI)),ax (λg=>g (vU λi _ hi=>sW.gate i (by omega))),ax']
 refine⟨hc,⟨⟨hv5.1,?_⟩,?_,qN.len.symm,sW.len.symm,qN.state,sW.state⟩,qN,OT,Kd,?_,?_,?_⟩
 .show v<=jy r.c r.t
  omega
 .simp only;omega
 .simp only;omega
 .simp only;omega
 .have:=(H6 (oG (vX hr)) r.t).2
  show jy r.c r.t<=10000;omega
end
def ayD{u:Un}{s:Us}(hv:fH u s)(q:Int):fH u (uZ u s q):=by
 have h1:=hv.2.1;unfold uZ;split
 next hm=>
  refine⟨hv.1,?_,?_⟩
  .unfold v8;simp only;split<;>omega
  .unfold v8;simp only
   unfold lD at hm;by_cases hq:q=0
   .exact .inl hq
   .rw[ax hq]at hm;exact .inr ⟨hm.1,hm.2.2⟩
 .exact⟨hv.1,by simp,.inl rfl⟩
def ayE{lv w:Int}{g:List Gt}{s:List Gs}(hl:g.length=s.length)(hs:B3 g s)(hv:∀i,i<g.length->Gv (nth g i)):∀i,i<=g.length ->
  ∀j,j<g.length->0<=nth (bs lv w g s i).1 j/\nth (bs lv w g s i).1 j<=(nth g j).dF:=by
 intro i;induction i with
 |zero =>
  intro _ j hj;have hr:=FC (hv j hj) (hs j hj);simp only[bs];rw[LY hj (by omega)]
  omega
 |succ i ih =>
  intro hi j hj;simp only[bs];rw[Mb (by rw[rm hl];omega)]
  split
  next e=>
   subst e;have hr:=FC (hv i hj) (hs i hj);have ho:=ax0 (lv:=lv) (w:=w) (hv i hj) (hs i hj) (bs lv w g s i).2;omega
  .exact ih (by omega) j hj
def ayF{g:List Gt}{s:List Gs}{lv w:Int}(h:aE g s lv=0)(hw:0<=w/\w<=1073741824):(rj g s lv w).length=g.length/\B3 g (rj g s lv w):=by
 obtain⟨h1,h2,h3,h4,h5⟩:=LW h;have hE:m9 g s lv w=0:=by simp[m9,h,hw]
 have hS:rj g s lv w=pq (bs lv w g s g.length).1 s:=by unfold rj;rw[aJ hE]
 have hb:=rm (lv:=lv) (w:=w) h2 g.length;rw[hS];refine⟨by simp[pq];omega,λi hi=>?_⟩
 unfold pq;rw[Ih (by omega) (by omega)]
 exact ayE h2 h3 h4 g.length (b8 _) i hi
def ayG{d:Dm}{s:Ds}{m:Int}{n i:Nat}(hi:i<n):nth (rn d s m n) i=uZ (nth d.u i) (nth s.u i) (iU d s m i):=by
 unfold rn;simp[nth,hi]
def ayH{d:Dm}(h:Dv d){s:Ds}(hf:jq d s){inf los rel:Int}(hi:0<=inf/\inf<=1073741824)(hl:0<=los/\los<=1073741824)(hr:0<=rel/\rel<=1073741824):jq d (oe d s inf los rel):=by
 have p:=XC h hf hi hl hr;have hv:=hf.1;have hC:=Qi h.r;have hD:=Qh h.r;have hT:=p.T0;have hP:=p.P0;have hs:=p.sum;have hL:=p.L;have vJ:lI d (eT s inf los)<=eT s inf los:=by unfold lI;omega
 have hO:wg d s inf los rel=max (eT s inf los-(ic d s inf los rel+nM d s inf los rel)-mD d) 0:=rfl;have hg:=ayF (ays h hf) p.w0;refine⟨?_,?_,Ql,hg.1,λi hi=>?_,hg.2⟩
 .show 0<=eT s inf los-(ic d s inf los rel+nM d s inf los rel)-wg d s inf los rel/\eT s inf los-(ic d s inf los rel+nM d s inf los rel)-wg d s inf los rel<=mD d
  omega
 .show 0<=min (ic d s inf los rel+nM d s inf los rel) 1073741824/\min (ic d s inf los rel+nM d s inf los rel) 1073741824<=1073741824
  omega
 .show fH (nth d.u i) (nth (rn d s _ d.u.length) i)
  rw[ayG hi];exact ayD (hf.2.2.2.2.1 i hi) _
def ayI(a b:Ds)(r:Dr):List Int:=[a.v,b.v,r.inf,r.los,r.tur,r.spi,r.ovr]
def aiT(n:Int):Prop:=0<=n/\n<=274877906944
instance {n:Int}:Decidable (aiT n):=inferInstanceAs (Decidable (_/\_))
def aiU(a b:Ds)(r:Dr):Prop:=(∀i,i<7->aiT (nth (ayI a b r) i))/\b.v=a.v+r.inf-r.los-r.tur-r.spi-r.ovr
noncomputable instance {a b:Ds} {r:Dr}:Decidable (aiU a b r):=Classical.propDecidable _

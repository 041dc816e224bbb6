/- - -/
import Derived.Test.YtabckmbjnjnegaaGreatDoorDd
attribute [local simp] Go.Vm.wrap64
namespace Go.Proofs.YtabckmbjnjnegaaGreatDoor
set_option linter.all false
set_option maxRecDepth 100000
set_option maxHeartbeats 400000
open Go.Vm
section
attribute [local simp] mX mY lX mW
variable{c:List Pt}{i:Nat}
def aiV(h:Cv c){y x:Int}(hi:i+1<c.length)(h1:(nth c i).y<=y)(h2:y<(nth c (i+1)).y)(hx:(nth c i).x<=x):sx c (i+1) x<=y<->x<=Fp c y i:=by
 have u1:=h.up (i+1) (by omega) hi
 simp only[rW]at u1;have a2:0<(y-(nth c i).y+1)*((nth c (i+1)).x-(nth c i).x):=RN (by omega) (by omega)
 have a3:0<=((nth c (i+1)).y-(nth c i).y)*(x-(nth c i).x):=Gl (by omega) (by omega)
 unfold sx Fp;simp only[rW];rw[uh a3,uh (by omega)]
 have e1:((nth c (i+1)).y-(nth c i).y)*(x-(nth c i).x) / ((nth c (i+1)).x-(nth c i).x)<y-(nth c i).y+1<->((nth c (i+1)).y-(nth c i).y)*(x-(nth c i).x)<(y-(nth c i).y+1)*((nth c (i+1)).x-(nth c i).x) :=
  Int.ediv_lt_iff_lt_mul (by omega)
 have e2:x-(nth c i).x<=((y-(nth c i).y+1)*((nth c (i+1)).x-(nth c i).x)-1) / ((nth c (i+1)).y-(nth c i).y)<->(x-(nth c i).x)*((nth c (i+1)).y-(nth c i).y)<=(y-(nth c i).y+1)*((nth c (i+1)).x-(nth c i).x)-1 :=
  RK (by omega)
 rw[MY (x-(nth c i).x)]at e2;constructor
 .intro g
  have:=e2.2 (by have:=e1.1 (by omega);omega)
  omega
 .intro g
  have:=e1.2 (by have:=e2.1 (by omega);omega)
  omega
def XH(h:Cv c)(hi:i<c.length):jy c (nth c i).x=(nth c i).y:=by
 rcases nV i with rfl|h0
 .exact Fo h (vk _)
 .have u:=h.up i h0 hi
  rw[AH h h0 hi (by omega) (vk _),sx,M0 _ (by omega)]
  omega
def aiW{c:List Pt}(h:Cv c){y:Int}:∀(m i:Nat),i+m=c.length-1->(nth c i).y<=y->jy c (uU c y m i)<=y/\∀x,uU c y m i<x->x<=(nth c (c.length-1)).x->y<jy c x
 |0,i,hi,hy=>by
  have hp:=h.pos;unfold uU;rw[XH h (by omega)]
  obtain rfl:i=c.length-1:=by omega
  exact⟨hy,λx a b=>by omega⟩
 |m+1,i,hi,hy=>by
  have hp:=h.pos;unfold uU;split
  next h2=>
   have hr:=aiR h (i:=i) (by omega) hy h2
   refine⟨?_,λx a b=>?_⟩
   .rw[AH h (i:=i+1) (by omega) (by omega) (by simpa using hr.1) hr.2]
    exact(aiV h (by omega) hy h2 hr.1).2 (vk _)
   .rcases Int.lt_or_le (nth c (i+1)).x x with h3|h3
    .have:=Xj h (show(nth c (i+1)).x<=x by omega)
     rw[XH h (by omega)]at this
     omega
    .rw[AH h (i:=i+1) (by omega) (by omega) (by simp only[rW];omega) h3]
     have:=not_congr (aiV h (x:=x) (by omega) hy h2 (by omega))
     omega
  .exact aiW h m (i+1) (by omega) (by omega)
def aiX(h:iu c=0)(y:Int)(G:List aM) :
  aX F 136 [jK c,i64 y] G=some (.tuple [i64 (if y<(nth c 0).y then 0 else AI c y),.bool (decide ((nth c 0).y<=y)),i64 0],G) :=
 bD rfl rfl (by
  have hc:=oG h;have hp:=hc.pos;have hl:=hc.l8;have h3:((c.length:Int)-1).toNat=c.length-1:=by omega
  have h4:0<=(c.length:Int)-1:=by omega
  have h5:c.length-1<c.length:=by omega
  have x0:=hc.x0 0 hp;have x1:=hc.x0 (c.length-1) h5;have tN:=Ma hc (i:=0) (j:=c.length-1) (by omega) h5
  have hA:=λx=>ahA hc x [];have Iz:=hA (nth c 0).x;rw[XH hc hp]at Iz;by_cases h1:y<(nth c 0).y
  .have h2:¬ (nth c 0).y<=y:=by omega
   simp (disch:=omega) [-getElem?_pos,VU,oc,h,bc (l:=c),hp,h3,h4,h5,Iz,h1,h2]
  .have h2:(nth c 0).y<=y:=by omega
   have FH:=aiW hc (y:=y) (c.length-1) 0 (by omega) h2
   have XI:=Xz hc (y:=y) (c.length-1) 0 (by omega) h2
   have dS:uU c y (c.length-1) 0=AI c y:=rfl;rw[dS]at FH XI;simp (disch:=omega) [-getElem?_pos,VU,oc,h,bc (l:=c),hp,h3,h4,h5,Iz,h1,h2];refine go_loop (λs:Int×Int=>aud (jK c) y s.1 s.2 G) (λs=>(nth c 0).x<=s.1/\s.1<=AI c y/\AI c y<=s.2/\s.2<=(nth c (c.length-1)).x) (λs=>(s.2-s.1).toNat) ((nth c 0).x,(nth c (c.length-1)).x) rfl (by simp) ⟨by simp,XI.1,XI.2,by simp⟩ ?_
   rintro⟨lo,hi⟩ ⟨b1,b2,b3,b4⟩;simp only at b1 b2 b3 b4;have d1:0<=(hi-lo).tdiv 2:=z6 (by omega) (by omega)
   have d2:(hi-lo).tdiv 2=(hi-lo) / 2:=uh (by omega)
   have hAm:=hA (hi-(hi-lo).tdiv 2);simp (disch:=omega) [-getElem?_pos,afq,hAm];refine bO (λh6=>?_) (λh6=>?_)
   .refine bO (λh7=>?_) (λh7=>?_)
    .refine bB (hi-(hi-lo).tdiv 2,hi) (by simp) ⟨by simp only;omega,?_,b3,b4⟩ (by simp only;omega)
     simp only;refine M1.1 λh8=>?_;have:=FH.2 _ h8 (by omega)
     omega
    .refine bB (lo,hi-(hi-lo).tdiv 2-1) (by simp) ⟨b1,b2,?_,by simp only;omega⟩ (by simp only;omega)
     simp only;refine M1.1 λh8=>?_;have:=Xj hc (show hi-(hi-lo).tdiv 2<=AI c y by omega)
     have:=FH.1;omega
   .have:lo=AI c y:=by omega
    subst this;simp (disch:=omega) [-getElem?_pos,h1,h2])
def ayK{r:Rs}(h:jz r=0){v:Int}(hv:0<=v/\v<=274877906944)(G:List aM):aX F 91 [.agg r.cells,i64 v] G=some (.tuple [i64 (lj r v),i64 0],G) :=
 bD rfl rfl (by
  have hp:=(oG (vX h)).pos;have ny:(decide (0<=v)&&decide (v<=274877906944))=true:=by simp;omega
  by_cases h1:v<(nth r.c 0).y
  .have h2:¬ (nth r.c 0).y<=v:=by omega
   simp[-getElem?_pos,Vy,DI,h,dj,ny,aiX (vX h),h1,h2,bc (l:=r.c),hp,lj]
  .have h2:(nth r.c 0).y<=v:=by omega
   simp[-getElem?_pos,Vy,DI,h,dj,ny,aiX (vX h),h1,h2,bc (l:=r.c),hp,lj])
def aiY{d:Dm}(h:jz d.r=0):mD d<=274877906944:=by
 have hc:=oG (vX h);have h1:=H6 hc d.r.t;have hp:=hc.pos;have h3:=hc.y0 (d.r.c.length-1) (by omega)
 have:mD d=jy d.r.c d.r.t:=rfl;omega
def FI(d:Dm)(s:Ds)(G:List aM):aX F 57 [dm d,dst s] G=some (.tuple [i64 (lvl d s),i64 (dE d s)],G) :=
 bD rfl rfl (by
  by_cases hd:dE d s=0
  .obtain⟨ub,hf⟩:=Ix hd
   have hv:=hf.1;have hC:=aiY ub.r;simp (disch:=omega) [Vj,aiN,hd,ayK ub.r,hv,lvl]
  .simp (disch:=omega) [Vj,aiN,hd,lvl])
def aiZ:∀{a:List Un} {E:List Int} {u:Un} {q:Int},a.length=E.length->jW (a++[u]) (E++[q])=jW a E+pow u q
 |[],[],_,_,_=>by simp[jW]
 |u::a,q::E,w,z,h=>by
  have:=aiZ (a:=a) (E:=E) (u:=w) (q:=z) (by simpa using h)
  simp only[vm,jW,this];omega
 |[],_::_,_,_,h=>by simp at h
 |_::_,[],_,_,h=>by simp at h
def ai0:∀{a:List Us} {E:List Int} {u:Us} {q:Int},a.length=E.length->jX (a++[u]) (E++[q])=jX a E+jN u q
 |[],[],_,_,_=>by simp[jX]
 |u::a,q::E,w,z,h=>by
  have:=ai0 (a:=a) (E:=E) (u:=w) (q:=z) (by simpa using h)
  simp only[vm,jX,this];omega
 |[],_::_,_,_,h=>by simp at h
 |_::_,[],_,_,h=>by simp at h
def ai1{us:List Un}{F:List Int}(h:F.length=us.length):∀i,i<=us.length->eo (λj=>pow (nth us j) (nth F j)) i=jW (us.take i) (F.take i)
 |0,_=>by simp[eo,jW]
 |i+1,hi=>by
  rw[jV (l:=us) (by omega),jV (l:=F) (by omega),aiZ (by simp;omega),<- ai1 h i (by omega)]
  rfl
def ai2{ss:List Us}{F:List Int}(h:F.length=ss.length):∀i,i<=ss.length->eo (λj=>jN (nth ss j) (nth F j)) i=jX (ss.take i) (F.take i)
 |0,_=>by simp[eo,jX]
 |i+1,hi=>by
  rw[jV (l:=ss) (by omega),jV (l:=F) (by omega),ai0 (by simp;omega),<- ai2 h i (by omega)]
  rfl
def ayL{u:Un}{s:Us}(hv:fH u s):uZ u s 0=⟨0,if 0<s.cF then 1 else min 1000 (s.since+1),s.out⟩:=by
 have hc:=hv.1;have hf:0<=s.cF:=by
  rcases hv.2.2 with h | ⟨_,h⟩
  .omega
  .have:=PO hc h;omega
 unfold uZ;by_cases h1:0<s.cF
 .rw[aJ h1]
  split
  .unfold v8
   rw[ax (by simp[h1])]
  .rfl
 .rw[ax h1,aJ]
  .unfold v8
   rw[aJ (by simp[h1])]
  .unfold lD
   rw[aJ rfl];exact λh=>absurd h h1
def ayM{d:Dm}(ub:Dv d){s:Ds}(hf:jq d s){q:Int}(hq:0<=q/\q<=1073741824)(G:List aM) :
  aX F 119 [dm d,dst s,i64 q] G=some (.tuple [LI (rn d s (min q (200*d.gr)) d.u.length),i64 (eo (iU d s (min q (200*d.gr))) d.u.length),i64 (eo (ua d s (min q (200*d.gr))) d.u.length),i64 (eo (oK d s (min q (200*d.gr))) d.u.length)],G) :=
 bD rfl rfl (by
  obtain⟨t,hb⟩:=axH d.u s.u d.gr (min q (200*d.gr)) [];have hgr:=ub.gr;have Xt:=ub.u;have Bq:=hf.2.2.1;generalize hM:min q (200*d.gr)=M at *;by_cases he:mc d.u s.u d.gr M=0
  .obtain⟨h1,h2⟩:=L8 he
   have hl:=Fx h1;have hV:=ahU d.u s.u (jo d.u s.u d.gr M) (by omega) []
   rw[aid h1]at hV;simp only[Ic]at hV;have f1:iU d s M=λj=>nth (jo d.u s.u d.gr M) j:=by funext j;simp[iU,he]
   have f2:ua d s M=λj=>pow (nth d.u j) (nth (jo d.u s.u d.gr M) j):=by funext j;simp only[ua,f1]
   have f3:oK d s M=λj=>jN (nth s.u j) (nth (jo d.u s.u d.gr M) j):=by funext j;simp only[oK,f1]
   have e1:eo (iU d s M) d.u.length=(jo d.u s.u d.gr M).sum:=by rw[f1,XA _ _ (by omega),kD (by omega)]
   have e2:eo (ua d s M) d.u.length=jW d.u (jo d.u s.u d.gr M):=by rw[f2,ai1 hl.1 _ (b8 _),kD (by omega),kD (by omega)]
   have e3:eo (oK d s M) d.u.length=jX s.u (jo d.u s.u d.gr M):=by rw[f3,ai2 hl.2 _ (by omega),kD (by omega),kD (by omega)]
   rw[e1,e2,e3];generalize hE:jo d.u s.u d.gr M=E at *;generalize jW d.u E=PW at *;generalize jX s.u E=ST at *;generalize E.sum=SU at *;simp (disch:=omega) [-getElem?_pos,VN,hM,hb,he,hV];refine go_loop (λi:Nat=>atP (.slice none 1 (E.map λn=>[i64 n])) (.slice (some 1063) 3 ((rn d s M i).map Us.row)) SU PW ST (ma d.u) d.u.length i s.row i G) (λi=>i<=d.u.length) (λi=>d.u.length-i) 0 rfl (by simp[rn]) (by omega) ?_
   intro i hi;have vQ:=Ql (d:=d) (s:=s) (m:=M) (n:=i);simp (disch:=omega) [-getElem?_pos,afe];refine bO (λh5=>?_) (λh5=>?_)
   .have h5:i<d.u.length:=by omega
    have h6:i<s.u.length:=by omega
    have h7:i<E.length:=by omega
    have hv:fH (nth d.u i) (nth s.u i):=hf.2.2.2.2.1 i h5;have kh:iU d s M i=nth E i:=by rw[f1]
    have hm:lD (nth d.u i) (nth s.u i) (nth E i):=(Ii.1 (Qj h1 i h5)).2.2;have hN:=WO (nth d.u i) (nth s.u i) (nth E i) [];have hnE:v7 (nth d.u i) (nth s.u i) (nth E i)=0:=by rw[ayi hv,aJ hm]
    rw[aJ hnE]at hN;have hx:uZ (nth d.u i) (nth s.u i) (nth E i)=v8 (nth s.u i) (nth E i):=by simp[uZ,hm]
    simp (disch:=omega) [-getElem?_pos,bc (l:=d.u),bc (l:=s.u),dQ (l:=E),hN,vQ];refine bB (i+1) (by simp[FG,kh,hx]) (by omega) (by omega)
   .obtain rfl:i=d.u.length:=by omega
    simp (disch:=omega) [-getElem?_pos,vQ]
  .have f1:iU d s M=λ_=>0:=by funext j;simp[iU,he]
   have f2:ua d s M=λ_=>0:=by funext j;simp[ua,f1,pow]
   have f3:oK d s M=λ_=>0:=by funext j;simp[oK,f1,jN]
   rw[f1,f2,f3,XB];simp (disch:=omega) [-getElem?_pos,VN,hM,hb,he];refine go_loop (λi:Nat=>atM (.slice (some 1063) 3 ((rn d s M i).map Us.row)) (lF s.u) s.u.length i i G) (λi=>i<=s.u.length) (λi=>s.u.length-i) 0 rfl (by simp[rn]) (by omega) ?_
   intro i hi;have vQ:=Ql (d:=d) (s:=s) (m:=M) (n:=i);simp (disch:=omega) [-getElem?_pos,afd];refine bO (λh5=>?_) (λh5=>?_)
   .have h5:i<d.u.length:=by omega
    have h6:i<s.u.length:=by omega
    have hv:fH (nth d.u i) (nth s.u i):=hf.2.2.2.2.1 i h5;have u9:=hv.2.1;have kh:iU d s M i=0:=by rw[f1]
    have hx:=ayL hv;by_cases h7:0<(nth s.u i).cF
    .rw[aJ h7]at hx
     simp (disch:=omega) [-getElem?_pos,bc (l:=s.u),h7,vQ];refine bB (i+1) (by simp[FG,kh,hx]) (by omega) (by omega)
    .rw[ax h7]at hx
     simp (disch:=omega) [-getElem?_pos,bc (l:=s.u),h7,vQ];refine bB (i+1) (by simp[FG,kh,hx]) (by omega) (by omega)
   .obtain rfl:i=s.u.length:=by omega
    rw[Bq]at vQ ⊢;simp (disch:=omega) [-getElem?_pos,vQ])
end
def aIc(lv w:Int):qA [] [] lv w=0:=by
 unfold qA;split
 .simp[bs,LX]
 .rfl
section
attribute [local simp] mX mY lX mW
def ayO(d:Dm)(s:Ds)(inf los rel:Int):∃G',aX F 74 [dm d,dst s,i64 inf,i64 los,i64 rel] []=some (wh d s inf los rel,G'):=by
 suffices h:∀Q:V->List aM->Prop,(∀G',Q (wh d s inf los rel) G')->gz (aX F) 74 [dm d,dst s,i64 inf,i64 los,i64 rel] [] Q by
  obtain⟨_,G',h,rfl⟩:=h (λv G'=>v=wh d s inf los rel) λ_=>rfl;exact⟨G',h⟩
 intro Q hQ;refine gN rfl rfl ?_;by_cases hd:dE d s=0
 .obtain⟨ub,hf⟩:=Ix hd
  have wH:lvl d s=lj d.r s.v:=by simp[lvl,hd]
  by_cases ho:[inf,los,rel].any AP=false
  .have he:qC d s inf los rel=0:=by unfold qC;rw[ax (λg=>g hd),ho];rfl
   unfold wh at hQ;rw[aJ he]at hQ;have hx:=ho;simp only[AP,Jg,Ji,Ja,RH,Zf,jD]at hx;obtain⟨x1,x2,x3⟩:=hx;have i1:(decide (0<=inf)&&decide (inf<=1073741824))=true:=by simp;omega
   have i2:(decide (0<=los)&&decide (los<=1073741824))=true:=by simp;omega
   have i3:(decide (0<=rel)&&decide (rel<=1073741824))=true:=by simp;omega
   have p:=XC ub hf x1 x2 x3;have hv:=hf.1;have hC:=Qi ub.r;have hD:=Qh ub.r;have DY:=PM d.r d.r.d [];rw[aye ub.r,aJ rfl,show jy d.r.c d.r.d=Iw d from rfl]at DY;have hV2:=PM d.r d.r.t [];rw[Xr ub.r,aJ rfl,show jy d.r.c d.r.t=mD d from rfl]at hV2;have hL:s.v+inf-min los (s.v+inf)=eT s inf los:=rfl;have vJ:max 0 (eT s inf los-Iw d)=lI d (eT s inf los):=by unfold lI;omega
   have hLr:0<=eT s inf los/\eT s inf los<=4611686018427387904:=by unfold eT;omega
   have XJ:0<=lI d (eT s inf los)/\lI d (eT s inf los)<=4611686018427387904:=by unfold lI;omega
   have hU:=ayM ub hf (q:=min rel (lI d (eT s inf los))) (by omega) []
   rw[show min (min rel (lI d (eT s inf los))) (200*d.gr)=nb d rel (eT s inf los) from rfl]at hU;rw[show eo (iU d s (nb d rel (eT s inf los))) d.u.length=ic d s inf los rel from rfl]at hU;have hT:=p.T0;have hTr:=p.Tr;have hW:min rel (lI d (eT s inf los))-ic d s inf los rel=pV d rel (eT s inf los) (ic d s inf los rel):=rfl;have hS:=ax8 d.g s.g (lj d.r s.v) (pV d rel (eT s inf los) (ic d s inf los rel)) [];have hF:=Qm d.g s.g (lj d.r s.v) (pV d rel (eT s inf los) (ic d s inf los rel))
   have hP:min (qA d.g s.g (lj d.r s.v) (pV d rel (eT s inf los) (ic d s inf los rel))) (lI d (eT s inf los)-ic d s inf los rel)=nM d s inf los rel:=rfl;have hP0:=p.P0;have hP1:=p.P1;have hO:max 0 (eT s inf los-(ic d s inf los rel+nM d s inf los rel)-mD d)=wg d s inf los rel:=by unfold wg;omega
   have hO0:0<=wg d s inf los rel/\wg d s inf los rel<=4611686018427387904:=by unfold wg;omega
   have hmn:min 1073741824 (ic d s inf los rel+nM d s inf los rel)=min (ic d s inf los rel+nM d s inf los rel) 1073741824:=MX _ _;unfold oe nN at hQ;generalize wg d s inf los rel=O at *;generalize nM d s inf los rel=P at *;generalize pV d rel (eT s inf los) (ic d s inf los rel)=W at *;generalize ic d s inf los rel=T at *;generalize PZ:eT s inf los=L at *;simp (config:={ maxSteps:=2000000 }) +contextual (disch:=omega) [-getElem?_pos,-List.length_eq_zero_iff,-Int.natCast_eq_zero,wrap64,HU,FI,hd,wH,dj,i1,i2,i3,DY,hV2]
   simp (config:={ maxSteps:=2000000 }) +contextual (disch:=omega) [-getElem?_pos,-List.length_eq_zero_iff,-Int.natCast_eq_zero,wrap64,hL,vJ,hU];simp (config:={ maxSteps:=2000000 }) +contextual (disch:=omega) [-getElem?_pos,-List.length_eq_zero_iff,-Int.natCast_eq_zero,wrap64,hW,hS,hP,hO,hmn];exact hQ _
  .have ho:[inf,los,rel].any AP=true:=(RD _).resolve_right ho
   have he:qC d s inf los rel=1:=by unfold qC;rw[ax (λg=>g hd),ho];rfl
   unfold wh at hQ;rw[he,ax']at hQ
   simp only[AP,Jg,Ji,Ja]at ho;by_cases i1:0<=inf/\inf<=1073741824
   .by_cases i2:0<=los/\los<=1073741824
    .by_cases i3:0<=rel/\rel<=1073741824
     .simp[i1,i2,i3]at ho
     .have j1:(decide (0<=inf)&&decide (inf<=1073741824))=true:=by simp;omega
      have j2:(decide (0<=los)&&decide (los<=1073741824))=true:=by simp;omega
      have j3:(decide (0<=rel)&&decide (rel<=1073741824))=false:=by simp;omega
      simp (config:={ maxSteps:=2000000 }) +contextual (disch:=omega) [-getElem?_pos,-List.length_eq_zero_iff,-Int.natCast_eq_zero,wrap64,HU,FI,hd,wH,dj,j1,j2,j3];exact hQ _
    .have j1:(decide (0<=inf)&&decide (inf<=1073741824))=true:=by simp;omega
     have j2:(decide (0<=los)&&decide (los<=1073741824))=false:=by simp;omega
     simp (config:={ maxSteps:=2000000 }) +contextual (disch:=omega) [-getElem?_pos,-List.length_eq_zero_iff,-Int.natCast_eq_zero,wrap64,HU,FI,hd,wH,dj,j1,j2];exact hQ _
   .have j1:(decide (0<=inf)&&decide (inf<=1073741824))=false:=by simp;omega
    simp (config:={ maxSteps:=2000000 }) +contextual (disch:=omega) [-getElem?_pos,-List.length_eq_zero_iff,-Int.natCast_eq_zero,wrap64,HU,FI,hd,wH,dj,j1];exact hQ _
 .have he:qC d s inf los rel=dE d s:=by unfold qC;rw[aJ hd]
  unfold wh at hQ;rw[he,ax hd]at hQ;simp[HU,FI,hd];exact hQ _
def ayU(s:List Us)(hs:s.length<=1000)(G:List aM):aX F 152 [lF s] G=some (LI s,G):=by
 cases s with
 |nil =>
  refine TS (p:=0) (m:=3) rfl rfl rfl rfl ?_ ?_
  .simp (disch:=omega) [Pf]
  .simp (disch:=omega) [Pf]
 |cons a s =>
  have hs:s.length+1<=1000:=by simpa using hs
  show aX F 152 [.slice none 3 (a.row::s.map Us.row)] G=some (.slice (some 0) 3 (a.row::s.map Us.row),G);refine TT (p:=0) rfl rfl rfl (λm=>by simp) ?_
  simp (disch:=omega) [Pf]
def ayV(s:List Gs)(hs:s.length<=1000)(G:List aM):aX F 153 [lq s] G=some (Qo s,G):=by
 cases s with
 |nil =>
  refine TS (p:=0) (m:=2) rfl rfl rfl rfl ?_ ?_
  .simp (disch:=omega) [Pg]
  .simp (disch:=omega) [Pg]
 |cons a s =>
  have hs:s.length+1<=1000:=by simpa using hs
  show aX F 153 [.slice none 2 (a.row::s.map Gs.row)] G=some (.slice (some 0) 2 (a.row::s.map Gs.row),G);refine TT (p:=0) rfl rfl rfl (λm=>by simp) ?_
  simp (disch:=omega) [Pg]
noncomputable def FJ(d:Dm)(s:Ds)(A B C:List Int):Nat->Ds
 |0=>s
 |i+1=>oe d (FJ d s A B C i) (nth A i) (nth B i) (nth C i)
noncomputable def rnR(d:Dm)(s:Ds)(A B C:List Int)(i:Nat):Dr:=nN d (FJ d s A B C i) (nth A i) (nth B i) (nth C i)
noncomputable def Qq(d:Dm)(s:Ds)(A B C:List Int)(n:Nat):List Dr:=(List.range n).map (rnR d s A B C)
end
section
attribute [local simp] mX mY lX mW
def IA{α:Type}[Inhabited α]{l:List α}{i k:Nat}:nth (l.drop k) i=nth l (k+i):=by simp[nth,mJ]
def ai6{d:Dm}{s:Ds}{A B C:List Int}{m:Nat}:∀i,FJ d (FJ d s A B C m) (A.drop m) (B.drop m) (C.drop m) i=FJ d s A B C (m+i)
 |0=>rfl
 |i+1=>by
  rw[<-Nat.add_assoc];simp only[FJ];rw[ai6 i,IA,IA,IA]
def aIe{d:Dm}{s:Ds}{A B C:List Int}{m n:Nat}:Qq d s A B C m++Qq d (FJ d s A B C m) (A.drop m) (B.drop m) (C.drop m) n=Qq d s A B C (m+n):=by
 unfold Qq;rw[List.range_add,Jp,zB];congr 1;refine M8 λi _=>?_;unfold rnR;rw[ai6,IA,IA,IA];rfl
def ayW(g:List Dr)(hg:g.length<=5000)(G:List aM):aX F 79 [.slice none 7 (g.map Dr.row),.slice none 7 (g.map Dr.row)] G=some (.bool true,G) :=
 bD rfl rfl (by
  simp (disch:=omega) [aep];refine go_loop (λi:Nat=>asF (.slice none 7 (g.map Dr.row)) (.slice none 7 (g.map Dr.row)) g.length i G) (λi=>i<=g.length) (λi=>g.length-i) 0 rfl (by simp) (by omega) ?_
  intro i hi;simp (disch:=omega) [aeo];refine bO (λh5=>?_) (λh5=>?_)
  .have h5:i<g.length:=by omega
   simp (disch:=omega) [bc (l:=g),V.iI,eD,kc];refine bB' (i+1)
  .trivial)
end
def okF(A B C:List Int)(i:Nat):Prop:=(0<=nth A i/\nth A i<=1073741824)/\(0<=nth B i/\nth B i<=1073741824)/\(0<=nth C i/\nth C i<=1073741824)
instance {A B C:List Int} {i:Nat}:Decidable (okF A B C i):=inferInstanceAs (Decidable (_/\_/\_))
def okA(A B C:List Int):Prop:=∀i,i<A.length->okF A B C i
noncomputable instance {A B C:List Int}:Decidable (okA A B C):=Classical.propDecidable _
section
attribute [local simp] mX mY lX mW
def ayY(r:Dr)(ht:0<=r.tur/\r.tur<=1099511627776)(hs:0<=r.spi/\r.spi<=1099511627776)(ho:0<=r.ovr/\r.ovr<=1099511627776)(G:List aM):aX F 75 [dr r] G=some (i64 (r.tur+r.spi+r.ovr),G) :=
 bD rfl rfl (by
  simp (disch:=omega) [Vr])
def fx(l:List Int)(b:Int):Prop:=∀i,i<l.length->0<=nth l i/\nth l i<=b
noncomputable instance {l:List Int} {b:Int}:Decidable (fx l b):=Classical.propDecidable _
def sm(l:List Int):Nat->Int
 |0=>0
 |i+1=>sm l i+nth l i
def FK{l:List Int}{b:Int}:∀{i:Nat},(∀j,j<i->0<=nth l j/\nth l j<=b)->0<=sm l i/\sm l i<=b*i
 |0,_=>by simp[sm]
 |i+1,h=>by
  have:=FK λj hj=>h j (ZE hj);have:=h i (by omega)
  have:b*((i+1:Nat):Int)=b*i+b:=by simp[RM]
  simp only[sm];omega
structure Rc where
 w:List Int
 den:Int
 deriving Inhabited
abbrev Rc.row(r:Rc):List V:=[ints r.w,i64 r.den]
abbrev rc(r:Rc):V:=.agg r.row
abbrev wv(p:List Int):V:=.agg [ints p]
noncomputable def fy(r:Rc):Int :=
 if r.w.length=0\/nth r.w (r.w.length-1)=0 then 3 else if 24<r.w.length then 10 else if fx r.w 10000 then (if sm r.w r.w.length=r.den then 0 else 2) else 1
def AQ(r:Rc)(hl:r.w.length<=17592186044416)(G:List aM):aX F 103 [rc r] G=some (i64 (fy r),G) :=
 bD rfl rfl (by
  obtain⟨w,den⟩:=r;simp only at hl;generalize hW:fy ⟨w,den⟩=W;unfold fy at hW;simp only at hW;by_cases h1:w.length=0
  .rw[aJ (.inl h1)]at hW
   have fA:(w.length:Int)=0:=by omega
   simp (disch:=omega) [-getElem?_pos,-Int.natCast_eq_zero,La,fA];exact hW
  have fA:¬ (w.length:Int)=0:=by omega
  by_cases h2:nth w (w.length-1)=0
  .rw[aJ (.inr h2)]at hW
   simp (disch:=omega) [-getElem?_pos,-Int.natCast_eq_zero,La,fA,dQ (l:=w),h2];exact hW
  rw[ax']at hW
  by_cases h3:24<w.length
  .rw[aJ h3]at hW
   have jd:(24:Int)<w.length:=by omega
   simp (disch:=omega) [-getElem?_pos,-Int.natCast_eq_zero,La,fA,dQ (l:=w),h2,jd];exact hW
  rw[ax h3]at hW;have jd:¬ (24:Int)<w.length:=by omega
  simp (disch:=omega) [-getElem?_pos,-Int.natCast_eq_zero,La,fA,dQ (l:=w),h2,jd];refine go_loop (λi:Nat=>as6 (sm w i) (ints w) w.length i (Rc.row ⟨w,den⟩) G) (λi=>i<=w.length/\∀j,j<i->0<=nth w j/\nth w j<=10000) (λi=>w.length-i) 0 rfl (by simp[sm]) (by simp) ?_
  rintro i ⟨hi,hj⟩;have hs:=FK hj;simp (disch:=omega) [-getElem?_pos,-Int.natCast_eq_zero,aeP];refine bO (λh5=>?_) (λh5=>?_)
  .have h5:i<w.length:=by omega
   by_cases h6:0<=nth w i/\nth w i<=10000
   .have je:(decide (0<=nth w i)&&decide (nth w i<=10000))=true:=by simp;exact h6
    simp (disch:=omega) [-getElem?_pos,-Int.natCast_eq_zero,dQ (l:=w),dZ,dj,je];refine bB (i+1) (by simp[sm]) ⟨by omega,λj h7=>?_⟩ (by omega)
    rcases cS j i with h8|h8
    .exact hj j h8
    .rwa [show j=i by omega]
   .have je:(decide (0<=nth w i)&&decide (nth w i<=10000))=false:=by simp;omega
    rw[ax (λg:fx w 10000=>h6 (g i h5))]at hW;simp (disch:=omega) [-getElem?_pos,-Int.natCast_eq_zero,dQ (l:=w),dZ,dj,je];exact hW
  .obtain rfl:i=w.length:=by omega
   rw[aJ (show fx w 10000 from hj)]at hW;by_cases h7:sm w w.length=den
   .rw[aJ h7]at hW
    simp (disch:=omega) [-getElem?_pos,-Int.natCast_eq_zero,h7];exact hW
   .rw[ax h7]at hW
    simp (disch:=omega) [-getElem?_pos,-Int.natCast_eq_zero,h7];exact hW)
def AR(r:Rc)(hl:r.w.length<=17592186044416)(G:List aM):aX F 107 [rc r] G=some (i64 (fy r),G) :=
 bD rfl rfl (by
  obtain⟨w,den⟩:=r;simp only at hl;generalize hW:fy ⟨w,den⟩=W;unfold fy at hW;simp only at hW;by_cases h1:w.length=0
  .rw[aJ (.inl h1)]at hW
   have fA:(w.length:Int)=0:=by omega
   simp (disch:=omega) [-getElem?_pos,-Int.natCast_eq_zero,Ld,fA];exact hW
  have fA:¬ (w.length:Int)=0:=by omega
  by_cases h2:nth w (w.length-1)=0
  .rw[aJ (.inr h2)]at hW
   simp (disch:=omega) [-getElem?_pos,-Int.natCast_eq_zero,Ld,fA,dQ (l:=w),h2];exact hW
  rw[ax']at hW
  by_cases h3:24<w.length
  .rw[aJ h3]at hW
   have jd:(24:Int)<w.length:=by omega
   simp (disch:=omega) [-getElem?_pos,-Int.natCast_eq_zero,Ld,fA,dQ (l:=w),h2,jd];exact hW
  rw[ax h3]at hW;have jd:¬ (24:Int)<w.length:=by omega
  simp (disch:=omega) [-getElem?_pos,-Int.natCast_eq_zero,Ld,fA,dQ (l:=w),h2,jd];refine go_loop (λi:Nat=>ath (sm w i) (ints w) w.length i (Rc.row ⟨w,den⟩) G) (λi=>i<=w.length/\∀j,j<i->0<=nth w j/\nth w j<=10000) (λi=>w.length-i) 0 rfl (by simp[sm]) (by simp) ?_
  rintro i ⟨hi,hj⟩;have hs:=FK hj;simp (disch:=omega) [-getElem?_pos,-Int.natCast_eq_zero,aeW];refine bO (λh5=>?_) (λh5=>?_)
  .have h5:i<w.length:=by omega
   by_cases h6:0<=nth w i/\nth w i<=10000
   .have je:(decide (0<=nth w i)&&decide (nth w i<=10000))=true:=by simp;exact h6
    simp (disch:=omega) [-getElem?_pos,-Int.natCast_eq_zero,dQ (l:=w),dZ,dj,je];refine bB (i+1) (by simp[sm]) ⟨by omega,λj h7=>?_⟩ (by omega)
    rcases cS j i with h8|h8
    .exact hj j h8
    .rwa [show j=i by omega]
   .have je:(decide (0<=nth w i)&&decide (nth w i<=10000))=false:=by simp;omega
    rw[ax (λg:fx w 10000=>h6 (g i h5))]at hW;simp (disch:=omega) [-getElem?_pos,-Int.natCast_eq_zero,dQ (l:=w),dZ,dj,je];exact hW
  .obtain rfl:i=w.length:=by omega
   rw[aJ (show fx w 10000 from hj)]at hW;by_cases h7:sm w w.length=den
   .rw[aJ h7]at hW
    simp (disch:=omega) [-getElem?_pos,-Int.natCast_eq_zero,h7];exact hW
   .rw[ax h7]at hW
    simp (disch:=omega) [-getElem?_pos,-Int.natCast_eq_zero,h7];exact hW)
def jA(r:Rc)(p:List Int):Prop:=p.length<=r.w.length/\(0<p.length->nth p (p.length-1)≠0)/\fx p 2251799813685248
noncomputable instance {r:Rc} {p:List Int}:Decidable (jA r p):=Classical.propDecidable _
def ai7(r:Rc)(p:List Int)(hl:p.length<=17592186044416)(G:List aM):aX F 186 [rc r,wv p] G=some (.bool (decide (jA r p)),G) :=
 bD rfl rfl (by
  obtain⟨w,den⟩:=r;generalize hW:decide (jA ⟨w,den⟩ p)=W;have no:¬ jA ⟨w,den⟩ p->W=false:=λh=>by rw[<-hW];simp[h]
  unfold jA at no;simp only at no;by_cases h1:(w.length:Int)<p.length
  .simp +contextual (disch:=omega) [-getElem?_pos,Ls,h1]
   exact no (by omega)
  by_cases h2:0<p.length/\nth p (p.length-1)=0
  .have mC:(0:Int)<p.length:=by omega
   simp +contextual (disch:=omega) [-getElem?_pos,Ls,h1,mC,dQ (l:=p),h2.2];exact no (λh=>h.2.1 h2.1 h2.2)
  rcases (by omega:(0:Int)<p.length/\nth p (p.length-1)≠0\/¬ (0:Int)<p.length) with⟨h3,h4⟩ | h3
  .simp +contextual (disch:=omega) [-getElem?_pos,Ls,h1,h3,dQ (l:=p),h4]
   refine go_loop (λi:Nat=>auV (ints p) p.length i G) (λi=>i<=p.length/\∀j,j<i->0<=nth p j/\nth p j<=2251799813685248) (λi=>p.length-i) 0 rfl (by simp) (by simp) ?_
   rintro i ⟨hi,hj⟩;simp +contextual (disch:=omega) [-getElem?_pos,Wb];refine bO (λh5=>?_) (λh5=>?_)
   .have h5:i<p.length:=by omega
    by_cases h6:0<=nth p i/\nth p i<=2251799813685248
    .have je:(decide (0<=nth p i)&&decide (nth p i<=2251799813685248))=true:=by simp;exact h6
     simp +contextual (disch:=omega) [-getElem?_pos,dQ (l:=p),dZ,dj,je];refine bB' (i+1) ⟨by omega,λj h7=>?_⟩
     rcases cS j i with h8|h8
     .exact hj j h8
     .rwa [show j=i by omega]
    .have je:(decide (0<=nth p i)&&decide (nth p i<=2251799813685248))=false:=by simp;omega
     simp +contextual (disch:=omega) [-getElem?_pos,dQ (l:=p),dZ,dj,je];exact no (λh=>h6 (h.2.2 i h5))
   .obtain rfl:i=p.length:=by omega
    rw[<-hW,fJ (show jA ⟨w,den⟩ p from⟨by simp only;omega,λh6 h7=>h2 ⟨h6,h7⟩,hj⟩)]
  .obtain rfl:p=[]:=pz.1 (by omega)
   have fA:¬ (w.length:Int)<0:=by omega
   simp +contextual (disch:=omega) [-getElem?_pos,Ls,fA];unfold agd;rw[AB];simp +contextual (disch:=omega) [-getElem?_pos,Wb];rw[<-hW,fJ (show jA ⟨w,den⟩ [] from⟨by simp,by simp,λi hi=>by simp at hi⟩)])
def ai8(r:Rc)(hr:r.w.length<=17592186044416)(p:List Int)(hl:p.length<=17592186044416)(G:List aM):aX F 118 [rc r,wv p] G=some (.bool (decide (fy r=0/\jA r p)),G) :=
 bD rfl rfl (by
  have hc:=AR r hr;by_cases hz:fy r=0
  .rw[hz]at hc
   obtain⟨w,den⟩:=r;rw[show decide (fy ⟨w,den⟩=0/\jA ⟨w,den⟩ p)=decide (jA ⟨w,den⟩ p) by simp[hz]]
   generalize hW:decide (jA ⟨w,den⟩ p)=W;have no:¬ jA ⟨w,den⟩ p->W=false:=λh=>by rw[<-hW];simp[h]
   unfold jA at no;simp only at no;by_cases h1:(w.length:Int)<p.length
   .simp +contextual (disch:=omega) [-getElem?_pos,HW,hc,h1]
    exact no (by omega)
   by_cases h2:0<p.length/\nth p (p.length-1)=0
   .have mC:(0:Int)<p.length:=by omega
    simp +contextual (disch:=omega) [-getElem?_pos,HW,hc,h1,mC,dQ (l:=p),h2.2];exact no (λh=>h.2.1 h2.1 h2.2)
   rcases (by omega:(0:Int)<p.length/\nth p (p.length-1)≠0\/¬ (0:Int)<p.length) with⟨h3,h4⟩ | h3
   .simp +contextual (disch:=omega) [-getElem?_pos,HW,hc,h1,h3,dQ (l:=p),h4]
    refine go_loop (λi:Nat=>atK (ints p) p.length i G) (λi=>i<=p.length/\∀j,j<i->0<=nth p j/\nth p j<=2251799813685248) (λi=>p.length-i) 0 rfl (by simp) (by simp) ?_
    rintro i ⟨hi,hj⟩;simp +contextual (disch:=omega) [-getElem?_pos,VK];refine bO (λh5=>?_) (λh5=>?_)
    .have h5:i<p.length:=by omega
     by_cases h6:0<=nth p i/\nth p i<=2251799813685248
     .have je:(decide (0<=nth p i)&&decide (nth p i<=2251799813685248))=true:=by simp;exact h6
      simp +contextual (disch:=omega) [-getElem?_pos,dQ (l:=p),dZ,dj,je];refine bB' (i+1) ⟨by omega,λj h7=>?_⟩
      rcases cS j i with h8|h8
      .exact hj j h8
      .rwa [show j=i by omega]
     .have je:(decide (0<=nth p i)&&decide (nth p i<=2251799813685248))=false:=by simp;omega
      simp +contextual (disch:=omega) [-getElem?_pos,dQ (l:=p),dZ,dj,je];exact no (λh=>h6 (h.2.2 i h5))
    .obtain rfl:i=p.length:=by omega
     rw[<-hW,fJ (show jA ⟨w,den⟩ p from⟨by simp only;omega,λh6 h7=>h2 ⟨h6,h7⟩,hj⟩)]
   .obtain rfl:p=[]:=pz.1 (by omega)
    have fA:¬ (w.length:Int)<0:=by omega
    simp +contextual (disch:=omega) [-getElem?_pos,HW,hc,fA];unfold afc;rw[AB];simp +contextual (disch:=omega) [-getElem?_pos,VK];rw[<-hW,fJ (show jA ⟨w,den⟩ [] from⟨by simp,by simp,λi hi=>by simp at hi⟩)]
  .generalize hW:decide (fy r=0/\jA r p)=W
   simp +contextual (disch:=omega) [-getElem?_pos,HW,hc,hz];rw[<-hW];simp[hz])
def ayZ(r:Rc)(hr:r.w.length<=17592186044416)(p:List Int)(hl:p.length<=17592186044416)(G:List aM):aX F 151 [rc r,wv p] G=some (.bool (decide (fy r=0/\jA r p)),G) :=
 bD rfl rfl (by
  have hc:=AQ r hr;have hf:=ai7 r p hl;by_cases hz:fy r=0
  .simp[VZ,hc,hf,hz]
  .simp[VZ,hc,hf,hz])
structure Rv(r:Rc):Prop where
 pos:1<=r.w.length
 len:r.w.length<=24
 last:nth r.w (r.w.length-1)≠0
 w:∀i,i<r.w.length->0<=nth r.w i/\nth r.w i<=10000
 sum:sm r.w r.w.length=r.den
 den:1<=r.den/\r.den<=240000
variable{r:Rc}
def xb(h:fy r=0):Rv r:=by
 unfold fy at h;split at h
 .cases h
 split at h
 .cases h
 split at h
 next h1 h2 h3=>
  split at h
  next h4=>
   have h0:1<=r.w.length:=by omega
   have s1:=FK (l:=r.w) (b:=10000) (i:=r.w.length) h3;have s2:=FK (l:=r.w) (b:=10000) (i:=r.w.length-1) λj hj=>h3 j (by omega)
   have s3:sm r.w r.w.length=sm r.w (r.w.length-1)+nth r.w (r.w.length-1):=by
    conv=>lhs;rw[show r.w.length=r.w.length-1+1 by omega]
    rfl
   have h5:=h3 (r.w.length-1) (by omega)
   exact⟨h0,by omega,by omega,h3,h4,by omega⟩
  .cases h
 .cases h
def rq(r:Rc)(p:List Int)(x:Int)(k:Nat):Int:=nth p k+x*nth r.w k
def yn(r:Rc)(p:List Int)(x:Int):Prop:=∀k,k<r.w.length->rq r p x k<=1125899906842624
noncomputable instance {r:Rc} {p:List Int} {x:Int}:Decidable (yn r p x):=Classical.propDecidable _
def nO(r:Rc)(p:List Int)(x:Int):Int:=rq r p x 0 / r.den
def rN(r:Rc)(p:List Int)(x:Int)(k:Nat):Int:=if k=0 then rq r p x 1+rq r p x 0 % r.den else rq r p x (k+1)
def oM(f:Nat->Int):Nat->Nat
 |0=>0
 |n+1=>if f n=0 then oM f n else n+1
def me(r:Rc)(p:List Int)(x:Int):List Int:=(List.range (oM (rN r p x) r.w.length)).map (rN r p x)
variable{i:Nat}
def yo{l:List Int}(h:l.length<=i):nth l i=0:=by
 simp[nth,List.getD,kW h]
variable{p:List Int}{x:Int}
def B6(hr:Rv r)(hp:jA r p)(hx:0<=x/\x<=1073741824)(k:Nat):0<=rq r p x k/\rq r p x k<=2262537232089088:=by
 have h1:0<=nth p k/\nth p k<=2251799813685248:=by
  rcases cS k p.length with h|h
  .exact hp.2.2 k h
  .rw[yo h];omega
 have h2:0<=nth r.w k/\nth r.w k<=10000:=by
  rcases cS k r.w.length with h|h
  .exact hr.w k h
  .rw[yo h];omega
 have h3:0<=x*nth r.w k:=Gl hx.1 h2.1;have h4:x*nth r.w k<=1073741824*10000:=Je hx.2 h2.2 h2.1 (by omega)
 unfold rq;omega
def ai9:(dM p).all V.sc=true:=by simp[dM,V.sc]
variable{n:Nat}
def aja(h:p.length<=n):(dM p).take n++(fj n λ_=>0).drop p.length=fj n (nth p):=by
 rw[kD (by simpa using h)]
 apply A4;intro i;rcases cS i p.length with h1|h1
 .rw[nR (by simpa using h1),nG h1,sw (by omega)]
 .rw[wy (by simpa using h1),api,mJ,show p.length+(i-p.length)=i by omega]
  rcases cS i n with h2|h2
  .rw[sw h2,sw h2,yo h1]
  .rw[kW (by simpa using h2),kW (by simpa using h2)]
variable{f:Nat->Int}
def ay0:(List.take n (fj (n+1) f).tail).all V.sc=true:=by
 rw[iW];intro v hv;have:=List.mem_of_mem_tail (Ek hv);simp only[fj,nU]at this;obtain⟨j,_,rfl⟩:=this;rfl
def ay1:List.take (n+1) (List.take n (fj (n+1) f).tail)++List.drop n (fj (n+1) f)=fj (n+1) λk=>if k<n then f (k+1) else f k:=by
 apply A4;intro i;have hl:(List.take n (fj (n+1) f).tail).length=n:=by simp
 rw[kD (by rw[hl];omega)]
 rcases cS i n with h|h
 .rw[nR (by rw[hl];exact h),Zu h,Zt,sw (by omega),sw (by omega),aJ h]
 .rw[wy (by rw[hl];exact h),hl,mJ,show n+(i-n)=i by omega]
  rcases cS i (n+1) with h2|h2
  .rw[sw h2,sw h2,ax']
  .rw[kW (by simpa using h2),kW (by simpa using h2)]
def ajb{m:Nat}(h:m<=n):ju [none] (chunks 1 (fj n f) 0 m)=some ((List.range m).map λj=>[V.int .i64 (f j)]):=by
 have e:(fj n f).take m=fj m f:=by
  apply A4;intro i;rcases cS i m with h1|h1
  .rw[Zu h1,sw (by omega),sw h1]
  .rw[kW (by simp;omega),kW (by simpa using h1)]
 rw[E1 _ _ _ rfl (by simpa using h),tA,e,fj,zB]
 exact KE f _
def ay2(r:Rc)(hr:Rv r)(p:List Int)(hp:jA r p)(x:Int)(hx:0<=x/\x<=1073741824)(G:List aM) :
  aX F 222 [rc r,wv p,i64 x] G=some (.tuple (if yn r p x then [wv (me r p x),i64 (nO r p x),.bool true] else [.agg [.slice (some 0) 1 []],i64 0,.bool false]),G) :=
 bD rfl rfl (by
  obtain⟨w,den⟩:=r;generalize hW:(V.tuple (if yn ⟨w,den⟩ p x then [wv (me ⟨w,den⟩ p x),i64 (nO ⟨w,den⟩ p x),.bool true] else [.agg [.slice (some 0) 1 []],i64 0,.bool false]))=W
  have hlen:=hr.len;have gR:=hr.pos;have nZ:=hp.1;simp only at hlen gR nZ;have XK:p.length<=w.length+1:=by omega
  have wi:∀k,k<w.length->0<=x*nth w k/\x*nth w k<=10737418240000:=λk hk=>by
   have h2:=hr.w k hk;simp only at h2;have h3:0<=x*nth w k:=Gl hx.1 h2.1;have h4:x*nth w k<=1073741824*10000:=Je hx.2 h2.2 h2.1 (by omega)
   omega
  have B7:∀k,0<=nth p k/\nth p k<=2251799813685248:=λk=>by
   rcases cS k p.length with h|h
   .exact hp.2.2 k h
   .rw[yo h];omega
  simp (disch:=omega) [-getElem?_pos,agO,abL,ai9,aja XK];refine go_loop (λi:Nat=>avs x (w.length+1) (ints w) w.length i (Rc.row ⟨w,den⟩) [.cj] (fj (w.length+1) λk=>if k<i then rq ⟨w,den⟩ p x k else nth p k) G) (λi=>i<=w.length/\∀k,k<i->rq ⟨w,den⟩ p x k<=1125899906842624) (λi=>w.length-i) 0 rfl (by simp) (by simp) ?_
  rintro i ⟨hi,hj⟩;simp (disch:=omega) [-getElem?_pos,agN];refine bO (λh5=>?_) (λh5=>?_)
  .have h5:i<w.length:=by omega
   have hq:=B6 hr hp hx i;have ha:=wi i h5;have hb:=B7 i;have hf:(λj=>if j=i then nth p i+x*nth w i else if j<i then rq ⟨w,den⟩ p x j else nth p j)=λj=>if j<i+1 then rq ⟨w,den⟩ p x j else nth p j:=by
    funext j;by_cases h6:j=i
    .subst h6;simp[rq]
    .by_cases h7:j<i
     .rw[ax h6,aJ h7,aJ']
     .rw[ax h6,ax h7,ax']
   simp (disch:=omega) [-getElem?_pos,dQ (l:=w),sw,hf];refine bO (λh7=>?_) (λh7=>?_)
   .rw[<-hW,ax (λg:yn ⟨w,den⟩ p x=>absurd (g i h5) (by omega))]
   .refine bB' (i+1) ⟨by omega,λk hk=>?_⟩
    rcases cS k i with h8|h8
    .exact hj k h8
    .rw[show k=i by omega];omega
  .obtain rfl:i=w.length:=by omega
   rw[aJ (show yn ⟨w,den⟩ p x from hj)]at hW;have hf:(fj (w.length+1) λk=>if k<w.length then rq ⟨w,den⟩ p x k else nth p k)=fj (w.length+1) (rq ⟨w,den⟩ p x):=TU λk hk=>by
    by_cases h6:k<w.length
    .rw[aJ h6]
    .rw[ax h6,show k=w.length by omega];simp[rq,yo (b8 w.length)]
   have hd:=hr.den;simp only at hd;have Me:¬ den=0:=by omega
   have q0:=B6 hr hp hx 0;have q1:=B6 hr hp hx 1;have d1:(rq ⟨w,den⟩ p x 0).tdiv den=rq ⟨w,den⟩ p x 0 / den:=uh q0.1;have d2:(rq ⟨w,den⟩ p x 0).tmod den=rq ⟨w,den⟩ p x 0 % den:=Zh q0.1;have d3:0<=rq ⟨w,den⟩ p x 0 / den:=Jb q0.1 (by omega)
   have d4:rq ⟨w,den⟩ p x 0 / den<=rq ⟨w,den⟩ p x 0:=MW _ q0.1;have d5:0<=rq ⟨w,den⟩ p x 0 % den:=RJ _ Me;have d6:rq ⟨w,den⟩ p x 0 % den<den:=RI _ (by omega)
   have hg:(fj (w.length+1) λk=>if k<w.length then (if k=0 then rq ⟨w,den⟩ p x 1+rq ⟨w,den⟩ p x 0 % den else rq ⟨w,den⟩ p x (k+1)) else (if k=1 then rq ⟨w,den⟩ p x 1+rq ⟨w,den⟩ p x 0 % den else rq ⟨w,den⟩ p x k)) =
     fj (w.length+1) λk=>if k<w.length then rN ⟨w,den⟩ p x k else (if k=1 then rq ⟨w,den⟩ p x 1+rq ⟨w,den⟩ p x 0 % den else rq ⟨w,den⟩ p x k):=TU λk hk=>by
    by_cases h6:k<w.length
    .rw[aJ h6,aJ h6];rfl
    .rw[ax h6,ax h6]
   simp (disch:=omega) [-getElem?_pos,hf,sw,Me,d1,d2,ay0,ay1,hg];generalize hh:(λk=>if k<w.length then rN ⟨w,den⟩ p x k else (if k=1 then rq ⟨w,den⟩ p x 1+rq ⟨w,den⟩ p x 0 % den else rq ⟨w,den⟩ p x k))=h
   have XL:∀k,k<w.length->h k=rN ⟨w,den⟩ p x k:=λk hk=>by rw[<-hh];exact aJ hk
   refine go_loop (λm:Nat=>avu m (rq ⟨w,den⟩ p x 0 / den) [.cj] (fj (w.length+1) h) G) (λm=>m<=w.length/\oM (rN ⟨w,den⟩ p x) m=oM (rN ⟨w,den⟩ p x) w.length) (λm=>m) w.length rfl (by simp) (by simp) ?_
   rintro m ⟨hm,ht⟩;cases m with
   |zero =>
    simp (disch:=omega) [-getElem?_pos,Pv,ajb];rw[<-hW,wv,me,<- ht];rfl
   |succ m =>
    by_cases h8:rN ⟨w,den⟩ p x m=0
    .simp (disch:=omega) [-getElem?_pos,Pv,sw,XL m hm,h8]
     exact bB' m ⟨by omega,by rw[<-ht,oM,aJ h8]⟩
    .simp (disch:=omega) [-getElem?_pos,Pv,sw,XL m hm,h8,ajb]
     rw[<-hW,wv,me,<- ht,oM,ax h8,ints,zB];have e:(List.range (m+1)).map (λj=>[V.int .i64 (h j)])=(List.range (m+1)).map ((λn=>[i64 n])∘rN ⟨w,den⟩ p x) :=
      M8 λj hj=>by rw[XL j (by have:=Gr.1 hj;omega)];rfl
     rw[e];rfl)
variable{g:Nat->Int}
def ay3(h:∀k,k<n->f (k+1)=g k):(List.take (n+1) ((List.range (n+1)).map λj=>[V.int .i64 (f j)])).tail=(List.range n).map λk=>[V.int .i64 (g k)]:=by
 rw[kD (by simp)]
 apply A4;intro i;rw[Zt];rcases cS i n with h1|h1
 .simp[Er,h1,h i h1]
 .rw[kW (by simp;omega),kW (by simpa using h1)]
def ajc(h:i<n):(List.range n)[i]?=some i:=by simp[Er,h]
def ay4:List.take n ((List.range (n+1)).map λk=>[V.int .i64 (g k)])=(List.range n).map λk=>[V.int .i64 (g k)]:=by
 rw[<-List.map_take,List.take_range,CO (by omega)]
def ay5(r:Rc)(hr:Rv r)(p:List Int)(hp:jA r p)(x:Int)(G:List aM) :
  aX F 122 [rc r,wv p,i64 x] G=some (.tuple (if (0<=x/\x<=1073741824)/\yn r p x then [wv (me r p x),i64 (nO r p x),i64 0] else [.agg [.slice (some 0) 1 []],i64 0,i64 1]),G) :=
 bD rfl rfl (by
  obtain⟨w,den⟩:=r;generalize hW:(V.tuple (if (0<=x/\x<=1073741824)/\yn ⟨w,den⟩ p x then [wv (me ⟨w,den⟩ p x),i64 (nO ⟨w,den⟩ p x),i64 0] else [.agg [.slice (some 0) 1 []],i64 0,i64 1]))=W
  have hlen:=hr.len;have gR:=hr.pos;have nZ:=hp.1;simp only at hlen gR nZ;by_cases hx:0<=x/\x<=1073741824
  case neg =>
   have uF:(decide (0<=x)&&decide (x<=1073741824))=false:=by simp;omega
   simp (disch:=omega) [-getElem?_pos,VP,dj,uF];rw[<-hW,ax (λg=>hx g.1)]
  have uF:(decide (0<=x)&&decide (x<=1073741824))=true:=by simp;exact hx
  have XK:p.length<=w.length+1:=by omega
  have wi:∀k,k<w.length->0<=x*nth w k/\x*nth w k<=10737418240000:=λk hk=>by
   have h2:=hr.w k hk;simp only at h2;have h3:0<=x*nth w k:=Gl hx.1 h2.1;have h4:x*nth w k<=1073741824*10000:=Je hx.2 h2.2 h2.1 (by omega)
   omega
  have B7:∀k,0<=nth p k/\nth p k<=2251799813685248:=λk=>by
   rcases cS k p.length with h|h
   .exact hp.2.2 k h
   .rw[yo h];omega
  simp (disch:=omega) [-getElem?_pos,VP,dj,uF,abL,ai9,aja XK];refine go_loop (λi:Nat=>at0 x (w.length+1) (ints w) w.length i (Rc.row ⟨w,den⟩) [.cj] (fj (w.length+1) λk=>if k<i then rq ⟨w,den⟩ p x k else nth p k) G) (λi=>i<=w.length/\∀k,k<i->rq ⟨w,den⟩ p x k<=1125899906842624) (λi=>w.length-i) 0 rfl (by simp) (by simp) ?_
  rintro i ⟨hi,hj⟩;simp (disch:=omega) [-getElem?_pos,afi];refine bO (λh5=>?_) (λh5=>?_)
  .have h5:i<w.length:=by omega
   have hq:=B6 hr hp hx i;have ha:=wi i h5;have hb:=B7 i;have hf:(λj=>if j=i then nth p i+x*nth w i else if j<i then rq ⟨w,den⟩ p x j else nth p j)=λj=>if j<i+1 then rq ⟨w,den⟩ p x j else nth p j:=by
    funext j;by_cases h6:j=i
    .subst h6;simp[rq]
    .by_cases h7:j<i
     .rw[ax h6,aJ h7,aJ']
     .rw[ax h6,ax h7,ax']
   simp (disch:=omega) [-getElem?_pos,dQ (l:=w),sw,hf];refine bO (λh7=>?_) (λh7=>?_)
   .rw[<-hW,ax (λg=>absurd (g.2 i h5) (by omega))]
   .refine bB' (i+1) ⟨by omega,λk hk=>?_⟩
    rcases cS k i with h8|h8
    .exact hj k h8
    .rw[show k=i by omega];omega
  .obtain rfl:i=w.length:=by omega
   rw[aJ ⟨hx,show yn ⟨w,den⟩ p x from hj⟩]at hW;have hf:(fj (w.length+1) λk=>if k<w.length then rq ⟨w,den⟩ p x k else nth p k)=fj (w.length+1) (rq ⟨w,den⟩ p x):=TU λk hk=>by
    by_cases h6:k<w.length
    .rw[aJ h6]
    .rw[ax h6,show k=w.length by omega];simp[rq,yo (b8 w.length)]
   have hd:=hr.den;simp only at hd;have Me:¬ den=0:=by omega
   have q0:=B6 hr hp hx 0;have q1:=B6 hr hp hx 1;have d1:(rq ⟨w,den⟩ p x 0).tdiv den=rq ⟨w,den⟩ p x 0 / den:=uh q0.1;have d2:(rq ⟨w,den⟩ p x 0).tmod den=rq ⟨w,den⟩ p x 0 % den:=Zh q0.1;have d3:0<=rq ⟨w,den⟩ p x 0 / den:=Jb q0.1 (by omega)
   have d4:rq ⟨w,den⟩ p x 0 / den<=rq ⟨w,den⟩ p x 0:=MW _ q0.1;have d5:0<=rq ⟨w,den⟩ p x 0 % den:=RJ _ Me;have d6:rq ⟨w,den⟩ p x 0 % den<den:=RI _ (by omega)
   have hg:∀k,k<w.length->(if k+1=1 then rq ⟨w,den⟩ p x 1+rq ⟨w,den⟩ p x 0 % den else rq ⟨w,den⟩ p x (k+1))=rN ⟨w,den⟩ p x k:=λk hk=>by
    unfold rN;by_cases h7:k=0
    .rw[aJ h7,aJ']
    .rw[ax h7,ax']
   simp (disch:=omega) [-getElem?_pos,hf,sw,Me,d1,d2];rw[ay3 (f:=λj=>if j=1 then rq ⟨w,den⟩ p x 1+rq ⟨w,den⟩ p x 0 % den else rq ⟨w,den⟩ p x j) hg]
   refine go_loop (λm:Nat=>⟨[(6,.bn 6 0),(9,.slice none 1 ((List.range m).map λk=>[V.int .i64 (rN ⟨w,den⟩ p x k)])),(12,i64 (rq ⟨w,den⟩ p x 0 / den))],[(6,[.cj])],[],G⟩) (λm=>m<=w.length/\oM (rN ⟨w,den⟩ p x) m=oM (rN ⟨w,den⟩ p x) w.length) (λm=>m) w.length rfl (by simp) (by simp) ?_
   rintro m ⟨hm,ht⟩;cases m with
   |zero =>
    simp (disch:=omega) [-getElem?_pos,Pe];rw[<-hW,wv,me,<- ht];rfl
   |succ m =>
    by_cases h8:rN ⟨w,den⟩ p x m=0
    .simp (disch:=omega) [-getElem?_pos,Pe,ajc,h8,ay4]
     exact bB' m ⟨by omega,by rw[<-ht,oM,aJ h8]⟩
    .simp (disch:=omega) [-getElem?_pos,Pe,ajc,h8]
     rw[<-hW,wv,me,<- ht,oM,ax h8,ints,zB];rfl)
noncomputable def iG(r:Rc)(p:List Int)(x:Int):Int:=if fy r≠0 then fy r else if jA r p then (if (0<=x/\x<=1073741824)/\yn r p x then 0 else 1) else 3
abbrev rsX(t:Option Nat)(e:Int):V:=.tuple [.agg [.slice t 1 []],i64 0,i64 e]
noncomputable def IB(t:Option Nat)(r:Rc)(p:List Int)(x:Int):V:=if iG r p x=0 then .tuple [wv (me r p x),i64 (nO r p x),i64 0] else rsX t (iG r p x)
variable{t:Option Nat}
def FL{e:Int}(h:iG r p x=e)(he:e≠0):IB t r p x=rsX t e:=by
 unfold IB;rw[h,ax he]
def Mf(h:iG r p x=0):IB t r p x=.tuple [wv (me r p x),i64 (nO r p x),i64 0]:=by
 unfold IB;rw[aJ h]
def ay6(r:Rc)(hr:r.w.length<=17592186044416)(p:List Int)(hl:p.length<=17592186044416)(G:List aM):aX F 121 [rc r,wv p] G=some (i64 (if fy r≠0 then fy r else if jA r p then 0 else 3),G) :=
 bD rfl rfl (by
  have hc:=AR r hr;have hv:=ai8 r hr p hl;generalize hW:(if fy r≠0 then fy r else if jA r p then (0:Int) else 3)=W
  by_cases hz:fy r=0
  .rw[ax']at hW
   by_cases hf:jA r p
   .rw[aJ hf]at hW
    simp[Pd,hc,hv,hz,hf];exact hW
   .rw[ax hf]at hW
    simp[Pd,hc,hv,hz,hf];exact hW
  .rw[aJ hz]at hW
   simp[Pd,hc,hv,hz];exact hW)
def ay7(r:Rc)(hr:r.w.length<=17592186044416)(p:List Int)(hl:p.length<=17592186044416)(x:Int):∃t,∀(G:List aM),aX F 76 [rc r,wv p,i64 x] G=some (IB t r p x,G):=by
 refine⟨if fy r=0/\jA r p then none else some 0,λG=>bD rfl rfl ?_⟩
 have hw:=ay6 r hr p hl;by_cases hz:fy r=0
 .rw[ax']at hw
  by_cases hf:jA r p
  .rw[aJ hf]at hw
   rw[aJ ⟨hz,hf⟩];have hs:=ay5 r (xb hz) p hf x;by_cases hp:(0<=x/\x<=1073741824)/\yn r p x
   .rw[aJ hp]at hs
    rw[Mf (by unfold iG;rw[ax',aJ hf,aJ hp])]
    simp[K9,hw,hs]
   .rw[ax hp]at hs
    rw[FL (e:=1) (by unfold iG;rw[ax',aJ hf,ax hp]) (by decide)]
    simp[K9,hw,hs]
  .rw[ax hf]at hw
   rw[ax (λg=>hf g.2),FL (e:=3) (by unfold iG;rw[ax',ax hf]) (by decide)]
   simp[K9,hw]
 .rw[aJ hz]at hw
  rw[ax (λg=>hz g.1),FL (e:=fy r) (by unfold iG;rw[aJ hz]) hz]
  simp[K9,hw,hz]
def ay8(r:Rc)(hr:r.w.length<=17592186044416)(p:List Int)(hl:p.length<=17592186044416)(x:Int)(G:List aM) :
  aX F 212 [rc r,wv p,.slice none 1 [[i64 x]]] G=some (.tuple (if iG r p x=0 then [wv (me r p x),.slice (some 0) 1 [[i64 (nO r p x)]],i64 0] else [.agg [.slice (some 0) 1 []],.slice (some 0) 1 [],i64 (iG r p x)]),G) :=
 bD rfl rfl (by
  have hc:=AQ r hr;have vg:=ai7 r p hl;generalize hW:(V.tuple (if iG r p x=0 then [wv (me r p x),.slice (some 0) 1 [[i64 (nO r p x)]],i64 0] else [.agg [.slice (some 0) 1 []],.slice (some 0) 1 [],i64 (iG r p x)]))=W
  by_cases hz:fy r=0
  .by_cases hf:jA r p
   .have hs:=ay2 r (xb hz) p hf x
    have nZ:p.length<=24:=by have:=hf.1;have:=(xb hz).len;omega
    by_cases hx:0<=x/\x<=1073741824
    .have uF:(decide (0<=x)&&decide (x<=1073741824))=true:=by simp;exact hx
     replace hs:=λG=>hs hx G;by_cases hp:yn r p x
     .rw[aJ (show iG r p x=0 by unfold iG;rw[ax',aJ hf,aJ ⟨hx,hp⟩])]at hW
      rw[aJ hp]at hs;simp (disch:=omega) [H2,Pr,Pq,hc,vg,hz,hf,dZ,uF,hs,AB];exact hW
     .rw[show iG r p x=1 by unfold iG;rw[ax',aJ hf,ax (λg=>hp g.2)],ax (by decide)]at hW
      rw[ax hp]at hs;simp (disch:=omega) [H2,Pr,Pq,hc,vg,hz,hf,dZ,uF,hs,AB];exact hW
    .have uF:(decide (0<=x)&&decide (x<=1073741824))=false:=by simp;omega
     simp (disch:=omega) [H2,Pr,Pq,hc,vg,hz,hf,dZ,uF,AB];rw[show iG r p x=1 by unfold iG;rw[ax',aJ hf,ax (λg=>hx g.1)],ax (by decide)]at hW
     exact hW
   .rw[show iG r p x=3 by unfold iG;rw[ax',ax hf],ax (by decide)]at hW
    simp (disch:=omega) [H2,hc,vg,hz,hf];exact hW
  .rw[show iG r p x=fy r by unfold iG;rw[aJ hz],ax hz]at hW
   simp (disch:=omega) [H2,hc,vg,hz];exact hW)
def aje(r:Rc)(hr:r.w.length<=17592186044416)(p:List Int)(hl:p.length<=17592186044416)(x:Int)(G:List aM):aX F 194 [rc r,wv p,i64 x] G=some (IB (some 0) r p x,G) :=
 bD rfl rfl (by
  have hs:=ay8 r hr p hl x;by_cases he:iG r p x=0
  .rw[aJ he]at hs
   rw[Mf he];simp[Wc,hs]
  .rw[ax he]at hs
   rw[FL rfl he];simp[Wc,hs,he])
structure Lk where
 f:Int
 t:Int
 r:Rc
 deriving Inhabited
abbrev Lk.row(l:Lk):List V:=[i64 l.f,i64 l.t,ints l.r.w,i64 l.r.den]
structure Rr where
 n:Int
 l:List Lk
abbrev pW(l:List Lk):V:=.slice none 4 (l.map Lk.row)
abbrev Rr.row(r:Rr):List V:=[i64 r.n,pW r.l]
abbrev rr(r:Rr):V:=.agg r.row
noncomputable def lE(r:Rr)(i:Nat):Int :=
 let l:=nth r.l i
 if (0<=l.f/\l.f<=r.n-1)/\(0<=l.t/\l.t<=r.n-1) then (if l.t<=l.f then 12 else if 0<i/\l.f<=(nth r.l (i-1)).f then 4 else fy l.r) else 11
noncomputable def kT(r:Rr):Int:=if r.n<1\/40<r.n then 3 else dH (lE r) r.l.length 0
def jO(r:Rr):Prop:=r.l.length<=17592186044416/\∀i,i<r.l.length->(nth r.l i).r.w.length<=17592186044416
def uc{n:Int}{l:List Lk}(h:1<=n)(h2:n<=40)(x:Int)(G:List aM):aX F 102 [.agg [i64 n,pW l],i64 x] G=some (.bool (decide (0<=x)&&decide (x<=n-1)),G) :=
 bD rfl rfl (by simp (disch:=omega) [aeO,dZ])
def XN(r:Rr)(hr:jO r)(G:List aM):aX F 63 [rr r] G=some (i64 (kT r),G) :=
 bD rfl rfl (by
  obtain⟨n,l⟩:=r;generalize hW:kT ⟨n,l⟩=W;unfold kT at hW;simp only at hW;obtain⟨hl,hw⟩:=hr;simp only at hl hw;by_cases h1:n<1
  .rw[aJ (.inl h1)]at hW
   simp (disch:=omega) [-getElem?_pos,O2,h1];exact hW
  by_cases h2:40<n
  .rw[aJ (.inr h2)]at hW
   simp (disch:=omega) [-getElem?_pos,O2,h1,h2];exact hW
  rw[ax']at hW
  have h1n:1<=n:=by omega
  have h2n:n<=40:=by omega
  simp (disch:=omega) [-getElem?_pos,O2,h1,h2];refine go_loop (λi:Nat=>asa (pW l) l.length i (Rr.row ⟨n,l⟩) G) (λi=>i<=l.length/\dH (lE ⟨n,l⟩) (l.length-i) i=W) (λi=>l.length-i) 0 rfl (by simp) ⟨by omega,hW⟩ ?_
  rintro i ⟨hi,hq⟩;simp (disch:=omega) [-getElem?_pos,ad7];refine bO (λh5=>?_) (λh5=>?_)
  .have h5:i<l.length:=by omega
   rw[kl h5]at hq;have hE:lE ⟨n,l⟩ i=if (0<=(nth l i).f/\(nth l i).f<=n-1)/\(0<=(nth l i).t/\(nth l i).t<=n-1) then (if (nth l i).t<=(nth l i).f then 12 else if 0<i/\(nth l i).f<=(nth l (i-1)).f then 4 else fy (nth l i).r) else 11:=rfl
   by_cases a1:0<=(nth l i).f/\(nth l i).f<=n-1
   case neg =>
    have nP:(decide (0<=(nth l i).f)&&decide ((nth l i).f<=n-1))=false:=by simp;omega
    rw[ax (λg=>a1 g.1)]at hE;rw[hE,ax (by decide)]at hq
    simp (disch:=omega) [-getElem?_pos,bc (l:=l),uc,dj,nP];exact hq
   have nP:(decide (0<=(nth l i).f)&&decide ((nth l i).f<=n-1))=true:=by simp;exact a1
   by_cases a2:0<=(nth l i).t/\(nth l i).t<=n-1
   case neg =>
    have tv:(decide (0<=(nth l i).t)&&decide ((nth l i).t<=n-1))=false:=by simp;omega
    rw[ax (λg=>a2 g.2)]at hE;rw[hE,ax (by decide)]at hq
    simp (disch:=omega) [-getElem?_pos,bc (l:=l),uc,dj,nP,tv];exact hq
   have tv:(decide (0<=(nth l i).t)&&decide ((nth l i).t<=n-1))=true:=by simp;exact a2
   rw[aJ ⟨a1,a2⟩]at hE;by_cases a3:(nth l i).t<=(nth l i).f
   .rw[aJ a3]at hE
    rw[hE,ax (by decide)]at hq
    simp (disch:=omega) [-getElem?_pos,bc (l:=l),uc,dj,nP,tv,a3];exact hq
   rw[ax a3]at hE;by_cases a4:0<i/\(nth l i).f<=(nth l (i-1)).f
   .rw[aJ a4]at hE
    rw[hE,ax (by decide)]at hq
    simp (disch:=omega) [-getElem?_pos,bc (l:=l),uc,dj,nP,tv,a3,a4.1,a4.2];exact hq
   rw[ax a4]at hE;have done:fy (nth l i).r=0->dH (lE ⟨n,l⟩) (l.length-(i+1)) (i+1)=W:=λh=>by rwa [hE,h,aJ rfl]at hq
   have stop:fy (nth l i).r≠0->fy (nth l i).r=W:=λh=>by rwa [hE,ax h]at hq
   rcases (by omega:¬ 0<i\/(0<i/\¬ (nth l i).f<=(nth l (i-1)).f)) with a5 | ⟨a5,a6⟩
   .by_cases hz:fy (nth l i).r=0
    .simp (disch:=omega) [-getElem?_pos,bc (l:=l),uc,dj,nP,tv,a3,a5,AQ (nth l i).r (hw i h5),AR (nth l i).r (hw i h5),hz]
     exact bB' (i+1) ⟨by omega,done hz⟩
    .simp (disch:=omega) [-getElem?_pos,bc (l:=l),uc,dj,nP,tv,a3,a5,AQ (nth l i).r (hw i h5),AR (nth l i).r (hw i h5),hz]
     exact stop hz
   .by_cases hz:fy (nth l i).r=0
    .simp (disch:=omega) [-getElem?_pos,bc (l:=l),uc,dj,nP,tv,a3,a5,a6,AQ (nth l i).r (hw i h5),AR (nth l i).r (hw i h5),hz]
     exact bB' (i+1) ⟨by omega,done hz⟩
    .simp (disch:=omega) [-getElem?_pos,bc (l:=l),uc,dj,nP,tv,a3,a5,a6,AQ (nth l i).r (hw i h5),AR (nth l i).r (hw i h5),hz]
     exact stop hz
  .obtain rfl:i=l.length:=by omega
   rw[l7]at hq;exact hq)
def XO(r:Rr)(hr:jO r)(G:List aM):aX F 66 [rr r] G=some (i64 (kT r),G) :=
 bD rfl rfl (by
  obtain⟨n,l⟩:=r;generalize hW:kT ⟨n,l⟩=W;unfold kT at hW;simp only at hW;obtain⟨hl,hw⟩:=hr;simp only at hl hw;by_cases h1:n<1
  .rw[aJ (.inl h1)]at hW
   simp (disch:=omega) [-getElem?_pos,O3,h1];exact hW
  by_cases h2:40<n
  .rw[aJ (.inr h2)]at hW
   simp (disch:=omega) [-getElem?_pos,O3,h1,h2];exact hW
  rw[ax']at hW
  have h1n:1<=n:=by omega
  have h2n:n<=40:=by omega
  simp (disch:=omega) [-getElem?_pos,O3,h1,h2];refine go_loop (λi:Nat=>asj (pW l) l.length i (Rr.row ⟨n,l⟩) G) (λi=>i<=l.length/\dH (lE ⟨n,l⟩) (l.length-i) i=W) (λi=>l.length-i) 0 rfl (by simp) ⟨by omega,hW⟩ ?_
  rintro i ⟨hi,hq⟩;simp (disch:=omega) [-getElem?_pos,aec];refine bO (λh5=>?_) (λh5=>?_)
  .have h5:i<l.length:=by omega
   rw[kl h5]at hq;have hE:lE ⟨n,l⟩ i=if (0<=(nth l i).f/\(nth l i).f<=n-1)/\(0<=(nth l i).t/\(nth l i).t<=n-1) then (if (nth l i).t<=(nth l i).f then 12 else if 0<i/\(nth l i).f<=(nth l (i-1)).f then 4 else fy (nth l i).r) else 11:=rfl
   by_cases a1:0<=(nth l i).f/\(nth l i).f<=n-1
   case neg =>
    have nP:(decide (0<=(nth l i).f)&&decide ((nth l i).f<=n-1))=false:=by simp;omega
    rw[ax (λg=>a1 g.1)]at hE;rw[hE,ax (by decide)]at hq
    simp (disch:=omega) [-getElem?_pos,bc (l:=l),uc,dj,nP];exact hq
   have nP:(decide (0<=(nth l i).f)&&decide ((nth l i).f<=n-1))=true:=by simp;exact a1
   by_cases a2:0<=(nth l i).t/\(nth l i).t<=n-1
   case neg =>
    have tv:(decide (0<=(nth l i).t)&&decide ((nth l i).t<=n-1))=false:=by simp;omega
    rw[ax (λg=>a2 g.2)]at hE;rw[hE,ax (by decide)]at hq
    simp (disch:=omega) [-getElem?_pos,bc (l:=l),uc,dj,nP,tv];exact hq
   have tv:(decide (0<=(nth l i).t)&&decide ((nth l i).t<=n-1))=true:=by simp;exact a2
   rw[aJ ⟨a1,a2⟩]at hE;by_cases a3:(nth l i).t<=(nth l i).f
   .rw[aJ a3]at hE
    rw[hE,ax (by decide)]at hq
    simp (disch:=omega) [-getElem?_pos,bc (l:=l),uc,dj,nP,tv,a3];exact hq
   rw[ax a3]at hE;by_cases a4:0<i/\(nth l i).f<=(nth l (i-1)).f
   .rw[aJ a4]at hE
    rw[hE,ax (by decide)]at hq
    simp (disch:=omega) [-getElem?_pos,bc (l:=l),uc,dj,nP,tv,a3,a4.1,a4.2];exact hq
   rw[ax a4]at hE;have done:fy (nth l i).r=0->dH (lE ⟨n,l⟩) (l.length-(i+1)) (i+1)=W:=λh=>by rwa [hE,h,aJ rfl]at hq
   have stop:fy (nth l i).r≠0->fy (nth l i).r=W:=λh=>by rwa [hE,ax h]at hq
   rcases (by omega:¬ 0<i\/(0<i/\¬ (nth l i).f<=(nth l (i-1)).f)) with a5 | ⟨a5,a6⟩
   .by_cases hz:fy (nth l i).r=0
    .simp (disch:=omega) [-getElem?_pos,bc (l:=l),uc,dj,nP,tv,a3,a5,AQ (nth l i).r (hw i h5),AR (nth l i).r (hw i h5),hz]
     exact bB' (i+1) ⟨by omega,done hz⟩
    .simp (disch:=omega) [-getElem?_pos,bc (l:=l),uc,dj,nP,tv,a3,a5,AQ (nth l i).r (hw i h5),AR (nth l i).r (hw i h5),hz]
     exact stop hz
   .by_cases hz:fy (nth l i).r=0
    .simp (disch:=omega) [-getElem?_pos,bc (l:=l),uc,dj,nP,tv,a3,a5,a6,AQ (nth l i).r (hw i h5),AR (nth l i).r (hw i h5),hz]
     exact bB' (i+1) ⟨by omega,done hz⟩
    .simp (disch:=omega) [-getElem?_pos,bc (l:=l),uc,dj,nP,tv,a3,a5,a6,AQ (nth l i).r (hw i h5),AR (nth l i).r (hw i h5),hz]
     exact stop hz
  .obtain rfl:i=l.length:=by omega
   rw[l7]at hq;exact hq)
end

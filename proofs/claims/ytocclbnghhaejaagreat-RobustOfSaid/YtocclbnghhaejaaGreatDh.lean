/- Parts of the proof, joined: Rob6, Rsn1, Rob8, Mut1, End0. -/
import Derived.Test.YtocclbnghhaejaaGreatDg
import Derived.Test.YtocclbnghhaejaaGreatSh
import Derived.Test.YtocclbnghhaejaaGreatQV
import Derived.Test.YtocclbnghhaejaaGreatVmN
import Derived.Test.YtocclbnghhaejaaGreatRows
namespace Go.Proofs.YtocclbnghhaejaaGreat
set_option linter.all false
open Go.Vm
attribute [local simp] lQ lR kP lP
theorem av7{a b c:Int}:kr [none] (chunks 1 [V.int .i64 a,V.int .i64 b,V.int .i64 c] 0 3)=some [[i64 a],[i64 b],[i64 c]]:=rfl
theorem aoi{L:bw}{d g m z:Nat}{x:bq}{w:Bool}{os:List bH}{keep:cY}{k:cz}{S:St} :
  dW L (⟨some d,.arr m z x,some (g,w)⟩::os) keep k S=kc w (Go.Vm.look g S.env) (dW L (⟨some d,.arr m z x,none⟩::os) keep k S) (dW L os keep k (S.put (some d) .undef)):=by
 rw[iD,iD];simp only[bH.run];rcases Go.Vm.look g S.env with _|v
 ·simp[cJ,kc]
 ·cases v with
  |bool b=>simp only[kc];cases b==w<;>simp
  |undef=>simp[kc]
  |_=>simp[cJ,kc]
theorem adf{c:Cs}{f:Fl}{p:Pn}{l:List Wd}{i:Nat}(h:i<l.length):nth (jB c f p l) i=jt c f p (nth l i):=by
 rw[jB,wF h]
theorem aga{c:Cs}{f:Fl}{p:Pn}{l:List Wd}:(jB c f p l).length=l.length:=by simp[jB]
theorem av8{c:Cs}{f:Fl}{p:Pn}{x:Wd}(h:ot c f p x.s=0):(jt c f p x).h.length=c.s.length:=by
 have:=(JC h).d;rw[←this];exact avP.2.trans (by simp[wN])
theorem aAE(c:Cs)(hs:c.s.length≤1000)(w:Ws)(hw:w.h.length=c.s.length)(G:List aP):aX F 94 [cs c,.agg w.row] G=some (.bool (bd c w),G) :=
 bM rfl rfl (by
  generalize hW:bd c w=W;unfold bd at hW;simp +contextual (disch:=omega) [-getElem?_pos,-List.length_eq_zero_iff,-Int.natCast_eq_zero,wrap64,auN];refine go_loop (fun i:Nat=>ay7 (qe c.s) c.s.length i w.row G) (fun i=>i≤c.s.length∧(((c.s.drop i).zip (w.h.drop i)).any (fun x=>decide (vol x.1.d.r x.1.d.r.s<x.2)) || decide (0<w.o))=W) (fun i=>c.s.length-i) 0 rfl (by simp) ⟨by omega,by simpa using hW⟩ ?_
  rintro i ⟨hi,hq⟩;simp +contextual (disch:=omega) [-getElem?_pos,-List.length_eq_zero_iff,-Int.natCast_eq_zero,wrap64,auM];refine bE (fun h=>?_) (fun h=>?_)
  ·have h:i<c.s.length:=by omega
   rw[mc h,mc (l:=w.h) (by omega),List.zip_cons_cons,List.any_cons]at hq
   have hV:=aAm (nth c.s i).d.r (nth c.s i).d.r.s [];by_cases h2:vol (nth c.s i).d.r (nth c.s i).d.r.s<nth w.h i
   ·rw[decide_eq_true h2,Bool.true_or,Bool.true_or]at hq
    simp +contextual (disch:=omega) [-getElem?_pos,-List.length_eq_zero_iff,-Int.natCast_eq_zero,wrap64,aW (l:=c.s),hV,dj (l:=w.h),h2];exact hq.symm
   ·rw[decide_eq_false h2,Bool.false_or]at hq
    simp +contextual (disch:=omega) [-getElem?_pos,-List.length_eq_zero_iff,-Int.natCast_eq_zero,wrap64,aW (l:=c.s),hV,dj (l:=w.h),h2];exact bF (i+1) (by simp) ⟨by omega,hq⟩ (by omega)
  ·obtain rfl:i=c.s.length:=by omega
   rw[List.drop_length,List.zip_nil_left,List.any_nil,Bool.false_or]at hq;exact hq)
noncomputable def Uj(c:Cs)(f:Fl)(p:Pn)(l:List Wd):V:=.tuple (if kz c f p l=0 then [i64 (lz c f p l l.length),i64 (zX l l.length),i64 0] else [i64 0,i64 0,i64 (kz c f p l)])
theorem agb{c:Cs}(hr:gW c.r){f:Fl}(hf:jY f)(p:Pn)(l:List Wd)(G:List aP):aX F 41 [cs c,fl f,pn p,jP l] G=some (Uj c f p l,G) :=
 bM rfl rfl (by
  generalize hW:Uj c f p l=W;unfold Uj at hW;have h0:=ac9 hr hf p l [];by_cases h1:kz c f p l=0
  case neg =>
   rw[avS h1]at h0;rw[if_neg h1]at hW;simp +contextual (disch:=omega) [-getElem?_pos,-List.length_eq_zero_iff,-Int.natCast_eq_zero,wrap64,amp,h0,h1];exact hW
  rw[ac7 h1]at h0;rw[if_pos h1]at hW;obtain⟨_,_,h3⟩:=ada h1;have hlen:=aga (c:=c) (f:=f) (p:=p) (l:=l);have RC:=fun i=>adf (c:=c) (f:=f) (p:=p) (l:=l) (i:=i);have hA:∀i,zX l (i+1)=zX l i+(nth l i).w:=fun i=>rfl;have hR:∀i,lz c f p l (i+1)=lz c f p l i+if bd c (jt c f p (nth l i))=true then (nth l i).w else 0:=fun i=>rfl
  simp +contextual (disch:=omega) [-getElem?_pos,-List.length_eq_zero_iff,-Int.natCast_eq_zero,wrap64,amp,h0,h1];refine go_loop (fun i:Nat=>ayD (jP l) (lz c f p l i) (zX l i) (.slice none 4 ((jB c f p l).map Ws.row)) l.length i c.row G) (fun i=>i≤l.length) (fun i=>l.length-i) 0 rfl (by simp[lz,zX,dN,hlen]) (by omega) ?_
  intro i hi;have b:=J0 h1 hi;simp +contextual (disch:=omega) [-getElem?_pos,-List.length_eq_zero_iff,-Int.natCast_eq_zero,wrap64,atS];refine bE (fun h=>?_) (fun h=>?_)
  ·have h:i<l.length:=by omega
   have b1:=(af9 h1 h).1;have hbd:=aAE c (by have:=(JC (h3 i h).2).s;omega) (jt c f p (nth l i)) (av8 (h3 i h).2) []
   have RC:=RC i h;have hA:=hA i;have hR:=hR i;have bA:i<(jB c f p l).length:=by omega
   simp only[Ws.row,Ws.aoc]at hbd;cases hb:bd c (jt c f p (nth l i)) with
   |true =>
    rw[hb]at hbd;rw[hb,if_pos rfl]at hR;simp +contextual (disch:=omega) [-getElem?_pos,-List.length_eq_zero_iff,-Int.natCast_eq_zero,wrap64,aW (l:=l),aW (l:=jB c f p l),RC,hbd];exact bF (i+1) (by simp[hA,hR]) (by omega) (by omega)
   |false =>
    rw[hb]at hbd;rw[hb,if_neg (by simp)]at hR
    simp +contextual (disch:=omega) [-getElem?_pos,-List.length_eq_zero_iff,-Int.natCast_eq_zero,wrap64,aW (l:=l),aW (l:=jB c f p l),RC,hbd];exact bF (i+1) (by simp[hA,hR]) (by omega) (by omega)
  ·obtain rfl:i=l.length:=by omega
   exact hW)
noncomputable def agk(c:Cs)(f:Fl)(p:Pn)(l:List Wd):V:=.tuple (if kz c f p l=0 then [.agg [i64 (lz c f p l l.length),i64 (-lF c f p l l.length),i64 (Ac c f p l l.length)],i64 0] else [.agg [i64 0,i64 0,i64 0],i64 (kz c f p l)])
theorem aAF{c:Cs}(hr:gW c.r){f:Fl}(hf:jY f)(p:Pn)(l:List Wd)(G:List aP):aX F 96 [cs c,fl f,pn p,jP l] G=some (agk c f p l,G) :=
 bM rfl rfl (by
  generalize hW:agk c f p l=W;unfold agk at hW;have h0:=ac9 hr hf p l [];have h2:=agb hr hf p l [];unfold Uj at h2;by_cases h1:kz c f p l=0
  case neg =>
   rw[if_neg h1]at h2;rw[if_neg h1]at hW;simp +contextual (disch:=omega) [-getElem?_pos,-List.length_eq_zero_iff,-Int.natCast_eq_zero,wrap64,am0,h2,h1];exact hW
  rw[ac7 h1]at h0;rw[if_pos h1]at hW h2;obtain⟨_,aDt,_⟩:=ada h1;have hlen:=aga (c:=c) (f:=f) (p:=p) (l:=l);have hP:∀i,lF c f p l (i+1)=lF c f p l i+(nth l i).w*(jt c f p (nth l i)).p:=fun i=>rfl;have hS:∀i,Ac c f p l (i+1)=Ac c f p l i+(nth l i).w*(jt c f p (nth l i)).t:=fun i=>rfl;simp +contextual (disch:=omega) [-getElem?_pos,-List.length_eq_zero_iff,-Int.natCast_eq_zero,wrap64,am0,h0,h1,h2]
  refine go_loop (fun i:Nat=>ay9 (jP l) (.slice none 4 ((jB c f p l).map Ws.row)) l.length i [z0,z0,z0] [i64 (lz c f p l l.length),i64 (-lF c f p l i),i64 (Ac c f p l i)] G) (fun i=>i≤l.length) (fun i=>l.length-i) 0 rfl (by simp[lF,Ac,dN,hlen]) (by omega) ?_
  intro i hi;have b:=J0 h1 hi;simp +contextual (disch:=omega) [-getElem?_pos,-List.length_eq_zero_iff,-Int.natCast_eq_zero,wrap64,auO];refine bE (fun h=>?_) (fun h=>?_)
  ·have h:i<l.length:=by omega
   have b1:=af9 h1 h;have b2:=J0 h1 (show i+1≤l.length by omega)
   have RC:=adf (c:=c) (f:=f) (p:=p) (l:=l) h;have hP:=hP i;have hS:=hS i;have bA:i<(jB c f p l).length:=by omega
   have e:-lF c f p l (i+1) = -lF c f p l i-(nth l i).w*(jt c f p (nth l i)).p:=by omega
   generalize jt c f p (nth l i)=x at *;simp +contextual (disch:=omega) [-getElem?_pos,-List.length_eq_zero_iff,-Int.natCast_eq_zero,wrap64,aW (l:=l),aW (l:=jB c f p l),RC];exact bF (i+1) (by simp[e,hS]) (by omega) (by omega)
  ·obtain rfl:i=l.length:=by omega
   exact hW)
noncomputable def mM(c:Cs)(f:Fl)(l:List Wd)(p:Pn):Int×Int×Int:=(lz c f p l l.length,lF c f p l l.length,Ac c f p l l.length)
def lN(x y:Int×Int×Int):Prop:=x.1<y.1∨x.1=y.1∧(y.2.1<x.2.1∨y.2.1=x.2.1∧x.2.2<y.2.2)
instance {x y:Int×Int×Int}:Decidable (lN x y):=by unfold lN;infer_instance
def nX(r:Nat→Int×Int×Int):Nat→Nat
 |0=>0
 |k+1=>if k=0∨lN (r k) (r (nX r k)) then k else nX r k
theorem adn{r:Nat→Int×Int×Int}:∀{k:Nat},0<k→nX r k<k
 |k+1,_=>by
  unfold nX;split
  ·omega
  ·rename_i h
   have:=adn (r:=r) (k:=k) (by omega)
   omega
abbrev Uq(x:Int×Int×Int):List Int:=[x.1,-x.2.1,x.2.2]
theorem cm3{x y:Int×Int×Int}:gu (Uq x) (Uq y)<0↔lN x y:=by
 obtain⟨a,b,c⟩:=x;obtain⟨d,e,f⟩:=y;simp only[Uq,gu,lN]
 repeat' split
 all_goals omega
abbrev pns(l:List Pn):V:=.slice none 2 (l.map Pn.row)
instance:Inhabited Pn:=⟨⟨0,[]⟩⟩
noncomputable def B0(c:Cs)(f:Fl)(ps:List Pn)(l:List Wd):Int:=if ps.length=0 then 9 else if 16<ps.length then 10 else dB (fun i=>kz c f (nth ps i) l) ps.length 0
noncomputable def l8(c:Cs)(f:Fl)(ps:List Pn)(l:List Wd):Nat→Nat:=nX fun i=>mM c f l (nth ps i)
noncomputable def J3(c:Cs)(f:Fl)(ps:List Pn)(l:List Wd):V:=.tuple (if B0 c f ps l=0 then [i64 (l8 c f ps l ps.length),i64 0] else [i64 0,i64 (B0 c f ps l)])
noncomputable def B1(c:Cs)(f:Fl)(ps:List Pn)(l:List Wd)(i:Nat):Int×Int×Int:=if i=0 then (0,0,0) else mM c f l (nth ps (l8 c f ps l i))
theorem aAH{c:Cs}{f:Fl}{ps:List Pn}{l:List Wd}{i:Nat}:l8 c f ps l (i+1)=if i=0∨lN (mM c f l (nth ps i)) (mM c f l (nth ps (l8 c f ps l i))) then i else l8 c f ps l i:=rfl
theorem adp{c:Cs}(hr:gW c.r){f:Fl}(hf:jY f)(ps:List Pn)(l:List Wd)(G:List aP):aX F 44 [cs c,fl f,pns ps,jP l] G=some (J3 c f ps l,G) :=
 bM rfl rfl (by
  generalize hW:J3 c f ps l=W;unfold J3 B0 at hW;by_cases h1:ps.length=0
  ·simp only[if_pos h1,if_neg (show ¬ (9:Int)=0 by omega)]at hW
   simp +contextual (disch:=omega) [-getElem?_pos,-List.length_eq_zero_iff,-Int.natCast_eq_zero,wrap64,afQ,h1];exact hW
  simp only[if_neg h1]at hW;have ju:¬ (ps.length:Int)=0:=by omega
  by_cases h2:16<ps.length
  ·have mg:(16:Int)<ps.length:=by omega
   simp only[if_pos h2,if_neg (show ¬ (10:Int)=0 by omega)]at hW
   simp +contextual (disch:=omega) [-getElem?_pos,-List.length_eq_zero_iff,-Int.natCast_eq_zero,wrap64,afQ,ju,mg];exact hW
  simp only[if_neg h2]at hW;have mg:¬ (16:Int)<ps.length:=by omega
  simp +contextual (disch:=omega) [-getElem?_pos,-List.length_eq_zero_iff,-Int.natCast_eq_zero,wrap64,afQ,ju,mg];refine go_loop (fun i:Nat=>ayF (jP l) (l8 c f ps l i) (pns ps) ps.length i c.row f.row [i64 (B1 c f ps l i).1,i64 (-(B1 c f ps l i).2.1),i64 (B1 c f ps l i).2.2] G)
   (fun i=>i≤ps.length∧(.tuple (if dB (fun i=>kz c f (nth ps i) l) (ps.length-i) i=0 then [i64 (l8 c f ps l ps.length),i64 0] else [i64 0,i64 (dB (fun i=>kz c f (nth ps i) l) (ps.length-i) i)]):V)=W) (fun i=>ps.length-i) 0 rfl (by simp[l8,nX,B1]) ⟨by omega,hW⟩ ?_
  rintro i ⟨hi,hq⟩;simp +contextual (disch:=omega) [-getElem?_pos,-List.length_eq_zero_iff,-Int.natCast_eq_zero,wrap64,atT];refine bE (fun h=>?_) (fun h=>?_)
  ·have h:i<ps.length:=by omega
   rw[kB h]at hq;have h0:=aAF hr hf (nth ps i) l [];unfold agk at h0;by_cases h3:kz c f (nth ps i) l=0
   case neg =>
    rw[if_neg h3]at h0;simp only[if_neg h3]at hq;simp +contextual (disch:=omega) [-getElem?_pos,-List.length_eq_zero_iff,-Int.natCast_eq_zero,wrap64,aW (l:=ps),h0,h3];exact hq
   rw[if_pos h3]at h0;simp only[if_pos h3]at hq;have gN:=aAH (c:=c) (f:=f) (ps:=ps) (l:=l) (i:=i);have hZ1:B1 c f ps l (i+1)=mM c f l (nth ps (l8 c f ps l (i+1))):=by rw[B1,if_neg (by omega)]
   by_cases h4:i=0
   ·subst h4
    rw[if_pos (.inl rfl)]at gN;simp +contextual (disch:=omega) [-getElem?_pos,-List.length_eq_zero_iff,-Int.natCast_eq_zero,wrap64,aW (l:=ps),h0,h3,aoi];exact bF 1 (by simp[gN,hZ1,mM]) ⟨by omega,hq⟩ (by omega)
   ·have Qv:¬ (i:Int)=0:=by omega
    have hZ:B1 c f ps l i=mM c f l (nth ps (l8 c f ps l i)):=by rw[B1,if_neg h4]
    have sy:=alN (Uq (mM c f l (nth ps i))) (Uq (B1 c f ps l i)) (by simp) []
    have awd:=cm3 (x:=mM c f l (nth ps i)) (y:=B1 c f ps l i);rw[←hZ]at gN;by_cases h5:lN (mM c f l (nth ps i)) (B1 c f ps l i)
    ·rw[if_pos (.inr h5)]at gN
     have h6:=awd.2 h5;generalize gu _ _=L at sy h6;simp only[Uq,mM,ints,List.map_cons,List.map_nil]at sy;simp +contextual (disch:=omega) [-getElem?_pos,-List.length_eq_zero_iff,-Int.natCast_eq_zero,wrap64,aW (l:=ps),h0,h3,Qv,sy,h6,aoi,av7];exact bF (i+1) (by simp[hZ1,gN,mM]) ⟨by omega,hq⟩ (by omega)
    ·rw[if_neg (fun g=>g.elim h4 h5)]at gN
     have h6:¬ _:=fun g=>h5 (awd.1 g);generalize gu _ _=L at sy h6;simp only[Uq,mM,ints,List.map_cons,List.map_nil]at sy;simp +contextual (disch:=omega) [-getElem?_pos,-List.length_eq_zero_iff,-Int.natCast_eq_zero,wrap64,aW (l:=ps),h0,h3,Qv,sy,h6,aoi,av7];exact bF (i+1) (by simp[hZ1,gN,hZ]) ⟨by omega,hq⟩ (by omega)
  ·obtain rfl:i=ps.length:=by omega
   rw[mE]at hq;simpa using hq)
abbrev c1:Cs:=⟨⟨1,[]⟩,[]⟩
abbrev f1:Fl:=⟨0,[],[]⟩
abbrev p1:Pn:=⟨0,[[]]⟩
abbrev w1:Wd:=⟨3,[⟨[5],[],[]⟩]⟩
theorem aAI:jd c1.r=0:=by
 unfold jd;rw[if_neg (by decide)]
 rfl
theorem awe:ew c1=0:=by
 unfold ew;rw[if_neg (fun g=>g aAI),if_neg (by decide),if_neg (by decide)]
 rfl
theorem aok:gW c1.r:=⟨by decide,fun i hi=>by simp at hi⟩
theorem aol:jY f1:=fun i=>Nat.zero_le _
theorem awi:ft c1 f1:=⟨by decide,⟨rfl,by simp⟩,rfl,fun i hi=>by simp at hi⟩
theorem awj:tl c1 p1=0:=by
 unfold tl;rw[if_neg (fun g=>g awe),if_pos (by decide),if_neg (by decide)]
 refine rW fun k _ hk=>?_;have:k=0:=by simp at hk;omega
 subst this;unfold Eb;rw[if_pos (show(nth p1.l 0).length=c1.s.length from rfl),if_pos (show eJ (nth p1.l 0) 1073741824 from fun i hi=>by
  have:(nth p1.l 0).length=0:=rfl;omega)]
theorem cv1:cy c1 ⟨[5],[],[]⟩ f1 1=⟨[5],[],[],[],[5],[]⟩:=by
 show vS c1 ⟨[5],[],[]⟩ ⟨[5],[],[],[],[],[]⟩ 0=_;unfold vS vL vD ff;rw[show kU c1.s ((0:Nat):Int)=none from rfl,show lV c1.r.l ((0:Nat):Int)=none from rfl];rfl
theorem pa1:fP c1 f1 ⟨[5],[],[]⟩=0:=by
 unfold fP;have ha:eJ [5] 1073741824:=fun i hi=>by
  have:i=0:=by simp at hi;omega
  subst this;decide
 rw[if_pos (by decide),if_pos (show eJ ((⟨[5],[],[]⟩:Sp).a++(⟨[5],[],[]⟩:Sp).b++(⟨[5],[],[]⟩:Sp).c) 1073741824 from ha),if_neg (by decide)]
 refine rW fun k _ hk=>?_;have:k=0:=by have:c1.r.n.toNat=1:=rfl;omega
 subst this;unfold vE ml oq ff;rw[show kU c1.s ((0:Nat):Int)=none from rfl,show lV c1.r.l ((0:Nat):Int)=none from rfl];rfl
theorem pl1:ot c1 f1 p1 w1.s=0:=by
 have hb:tm c1 f1 p1 w1.s.length=0:=by
  unfold tm;rw[if_neg (fun g=>g awj),if_pos awi,if_pos (show p1.f=f1.t from rfl),if_pos (show w1.s.length=p1.l.length from rfl)]
 unfold ot;rw[if_neg (fun g=>g hb)];unfold lI;have hr:iq c1 f1=0:=by unfold iq;rw[if_neg (fun g=>g awe),if_pos awi]
 rw[if_neg (fun g=>g hr),if_neg (by simp[eQ])]
 refine rW fun k _ hk=>?_;have:k=0:=by simp[eQ]at hk;omega
 subst this;exact pa1
theorem awz:∀i,i<(gF c1 f1 p1 w1.s).length→(nth (gF c1 f1 p1 w1.s) i).re=[]:=fun i hi=>by
 have:=(JC pl1).re i hi;exact List.length_eq_zero_iff.1 this
theorem ro1:kz c1 f1 p1 [w1]=0:=by
 unfold kz;rw[if_neg (fun g=>g awj),if_neg (fun g=>g (by decide))]
 refine rW fun k _ hk=>?_;have:k=0:=by simp at hk;omega
 subst this;show BK c1 f1 p1 w1=0;unfold BK;rw[if_neg (fun g=>g pl1),if_neg];intro h;obtain⟨x,hx,h2⟩:=List.any_eq_true.1 h;obtain⟨j,hj,rfl⟩:=List.mem_iff_getElem.1 hx;have:=awz j hj;rw[show nth (gF c1 f1 p1 w1.s) j=(gF c1 f1 p1 w1.s)[j] by simp[nth,List.getD,hj]]at this
 simp[QQ,this]at h2
theorem aAK:lz c1 f1 p1 [w1] 1=0:=by
 have h:jt c1 f1 p1 w1=⟨[],[],0,0,0⟩:=by
  unfold jt GJ;rw[aof awz];rfl
 show 0+(if bd c1 (jt c1 f1 p1 w1)=true then _ else _)=0
 rw[h];rfl
abbrev c1V:V:=.agg [i64 1,.slice none 4 [],.slice none 10 []]
abbrev w1V:V:=.slice none 2 [[i64 3,.slice none 3 [[.slice none 1 [[i64 5]],.slice none 1 [],.slice none 1 []]]]]
abbrev p1R:List V:=[i64 0,.slice none 1 [[.slice none 1 []]]]
theorem CW:aX F 35 [] []=some (.bool true,[]) :=
 bM rfl rfl (by
  have h1:aX F 41 [c1V,.agg [i64 0,.slice none 4 [],.slice none 1 []],.agg p1R,w1V] []=some (.tuple [i64 0,i64 3,i64 0],[]):=by
   have:=agb aok aol p1 [w1] [];unfold Uj at this;rw[if_pos ro1]at this;rw[show lz c1 f1 p1 [w1] [w1].length=0 from aAK]at this;exact this
  have h2:aX F 44 [c1V,.agg [i64 0,.slice none 4 [],.slice none 1 []],.slice none 2 [p1R,p1R],w1V] []=some (.tuple [i64 0,i64 0],[]):=by
   have:=adp aok aol [p1,p1] [w1] [];unfold J3 at this;have h0:B0 c1 f1 [p1,p1] [w1]=0:=by
    unfold B0;rw[if_neg (by decide),if_neg (by decide)]
    refine rW fun k _ hk=>?_;have:k=0∨k=1:=by simp at hk;omega
    rcases this with rfl|rfl<;>exact ro1
   rw[if_pos h0]at this;have h3:l8 c1 f1 [p1,p1] [w1] [p1,p1].length=0:=by
    show(if (1:Nat)=0∨lN (mM c1 f1 [w1] p1) (mM c1 f1 [w1] p1) then 1 else 0)=0
    rw[if_neg];simp only[lN];omega
   rw[h3]at this;exact this
  have h3:aX F 44 [c1V,.agg [i64 0,.slice none 4 [],.slice none 1 []],.slice none 2 [],w1V] []=some (.tuple [i64 0,i64 9],[]):=by
   have:=adp aok aol [] [w1] [];unfold J3 at this;rw[show B0 c1 f1 [] [w1]=9 from rfl]at this;exact this
  have h4:aX F 37 [c1V,w1V,i64 1] []=some (i64 0,[]):=avK c1 [w1] 1 [];simp +contextual (disch:=omega) [-getElem?_pos,-List.length_eq_zero_iff,-Int.natCast_eq_zero,wrap64,asc,h1,h2,h3,h4])
abbrev ahX(l:List Wd):V:=.slice (some 0) 2 (l.map Wd.row)
def Wm(c:Cs)(n:Nat)(w:Wd):Prop:=(1≤w.w∧w.w≤9)∧w.s.length=n∧∀j,j<n→Sw c (nth w.s j)
theorem awC{l:List Int}{k:Nat}(hd:db l k){c:Cs}(hn:1≤c.r.n∧c.r.n≤40)(hs:c.s.length≤10){n:Nat}(hm:n≤1000) :
  ∃q k',aX F 36 [.bG 0 0,cs c,i64 n] [dk l k]=some (ahX q,[dk l k'])∧db l k'∧(1≤q.length∧q.length≤3)∧∀i,i<q.length→Wm c n (nth q i):=by
 suffices h:∀Q:V→List aP→Prop,(∀q k',db l k'→(1≤q.length∧q.length≤3)→(∀i,i<q.length→Wm c n (nth q i))→Q (ahX q) [dk l k'])→gy (aX F) 36 [.bG 0 0,cs c,i64 n] [dk l k] Q by
  obtain⟨_,_,h,q,k',rfl,rfl,h1⟩:=h (fun v G=>∃q k',v=ahX q∧G=[dk l k']∧db l k'∧(1≤q.length∧q.length≤3)∧∀i,i<q.length→Wm c n (nth q i)) fun q k' a b d=>⟨q,k',rfl,rfl,a,b,d⟩;exact⟨q,k',h,h1⟩
 intro Q hQ;refine gS rfl rfl ?_;obtain⟨a,k1,h1,gB,ha⟩:=fK hd 3 (by omega)
 simp (disch:=omega) [wrap64,atO,h1];refine go_loop (fun y:List Wd×Int×Nat=>ayv (.bG 0 0) n (.slice (some 1025) 2 (y.1.map Wd.row)) y.2.1 c.row y.1.length [dk l y.2.2])
  (fun y=>((y.1.length:Int)+y.2.1=a ∧ -1≤y.2.1)∧db l y.2.2∧∀i,i<y.1.length→Wm c n (nth y.1 i)) (fun y=>(y.2.1+1).toNat) ([],a,k1) rfl (by simp) ⟨by simp;omega,gB,by simp⟩ ?_
 rintro⟨q,b,k⟩ ⟨h1,hd,hq⟩;simp only at h1 hd hq;simp (disch:=omega) [wrap64,atN];refine bE (fun h5=>?_) (fun h5=>?_)
 ·obtain⟨x,k2,n2,eX,hx⟩:=fK hd 9 (by omega)
  obtain⟨s,k3,n3,lT,HA,hsw⟩:=abr eX (c:=c) hn hs (n:=n) hm;simp (disch:=omega) [wrap64,n2,n3];refine bF (q++[⟨1+x,s⟩],b-1,k3) (by simp) ⟨by simp;omega,lT,fun i hi=>?_⟩ (by simp;omega)
  simp only[List.length_append,List.length_singleton]at hi;rw[iF];by_cases g:i<q.length
  ·rw[if_pos g];exact hq i g
  ·rw[if_neg g,if_pos (by omega)];exact⟨by show 1≤1+x∧1+x≤9;omega,HA,hsw⟩
 ·exact hQ q k hd (by omega) (fun i hi=>hq i (by omega))
def pq(x:Sp):Prop:=x.a.length≤17592186044416∧x.b.length≤17592186044416∧x.c.length≤17592186044416
end Go.Proofs.YtocclbnghhaejaaGreat
namespace Go.Proofs.YtocclbnghhaejaaGreat
set_option linter.all false
open Go.Vm Go.Shelf Go.RowKit Go.Lib
theorem apz{w:World}{b:Nat}{c:Array Value}{e:TypeId}{d:Array Int}(hb:w.heap[b]?=some (.cells c e (0,0))) :
  (Go.Sort.putRow (Value.int .i64) w b 0 d).heap[b]?=some (.cells (Go.Sort.putCells (Value.int .i64) 0 d c) e (0,0)):=by
 simp[Go.Sort.putRow,Go.Sort.mapBlock,Array.getElem?_modify,hb,Go.Sort.onCells]
theorem apA{w:World}{b i:Nat}{d:Array Int}(h:i≠b):(Go.Sort.putRow (Value.int .i64) w b 0 d).heap[i]?=w.heap[i]?:=by
 simp[Go.Sort.putRow,Go.Sort.mapBlock,Array.getElem?_modify,Ne.symm h]
theorem KD{c:Array Value}{d:Array Int}{j:Nat}:(Go.Sort.putCells (Value.int .i64) 0 d c)[j]?=if j<d.size then (c[j]?).map fun _=>.int .i64 d[j]! else c[j]?:=by
 simp only[Go.Sort.putCells,Array.getElem?_mapIdx,Nat.zero_le,true_and,Nat.zero_add,Nat.sub_zero];split
 ·rfl
 ·cases c[j]?<;>rfl
theorem holds_of{w:World}{b:Nat}{c:Array Value}{e:TypeId}{zs:List Int}(hb:w.heap[b]?=some (.cells c e (0,0)))(hc:∀(j:Nat) z,zs[j]?=some z→c[j]?=some (.int .i64 z)) :
  Go.Sort.Holds (Value.int .i64) w b 0 zs.toArray:=by
 intro j hj;have tP:j<zs.length:=by simpa using hj
 have h1:=hc j zs[j] (List.getElem?_eq_getElem tP);constructor
 ·simp only[World.cell?,hb,Nat.zero_add,h1]
  simp[tP]
 ·simp[World.frozen?,hb]
theorem abE{w w':World}{b:Nat}{c:Array Value}{e:TypeId}{d:Array Int}{n:Nat}{os:Array Obj}(hb:w.heap[b]?=some (.cells c e (0,0)))(hw:w'=Go.Sort.grow (Go.Sort.putRow (Value.int .i64) (Go.Sort.ahead w n) b 0 d) os) :
  Written w w' b (Go.Sort.putCells (Value.int .i64) 0 d c) e:=by
 subst hw;have bA:b<w.heap.size:=(Array.getElem?_eq_some_iff.1 hb).1;have hs:(Go.Sort.putRow (Value.int .i64) (Go.Sort.ahead w n) b 0 d).heap.size=w.heap.size:=by simp
 refine⟨rfl,rfl,rfl,by simp,fun i hi vx=>?_,?_⟩
 ·rw[Go.Sort.heap_grow_old _ _ (by rw[hs];exact vx),apA hi];rfl
 ·rw[Go.Sort.heap_grow_old _ _ (by rw[hs];exact bA)]
  exact apz (w:=Go.Sort.ahead w n) hb
def kf:Int→List Int→List Int
 |_,[]=>[]
 |p,a::l=>if a=p then kf a l else a::kf a l
theorem QC:∀(x:Int) (l:List Int),dedup (x::l)=x::kf x l
 |_,[]=>rfl
 |x,y::r=>by
  have ih:=QC y r;simp only[dedup,kf];by_cases h:x=y
  ·subst h
   simp[ih]
  ·have h':(x==y)=false:=by simpa using h
   have h2:¬y=x:=fun e=>h e.symm;simp[h',h2,ih]
theorem abF(a:Int):∀(p:Int) (l:List Int),kf p (l++[a])=kf p l++(if a=l.getLastD p then [] else [a])
 |p,[]=>by simp[kf]
 |p,b::l=>by
  have ih:=abF a b l;have e:(b::l).getLastD p=l.getLastD b:=by cases l<;>rfl
  rw[e,List.cons_append,kf,kf,ih];split<;>simp
theorem abG{zs:List Int}:∀{m:Nat},m≤zs.length→compactUpTo zs.toArray m=dedup (zs.take m)
 |0,_=>by simp[compactUpTo,dedup]
 |m+1,h=>by
  have ih:=abG (zs:=zs) (m:=m) (by omega)
  have e:compactUpTo zs.toArray (m+1)=compactUpTo zs.toArray m++(if keeps zs.toArray m then [zs.toArray[m]!] else []):=by
   simp only[compactUpTo,List.range_succ,List.filter_append,List.map_append];congr 1;by_cases hk:keeps zs.toArray m=true<;>simp[hk]
  have hm:zs.toArray[m]! = nth zs m:=by simp[nth,h]
  rw[e,ih,hm,List.take_add_one,aW h];cases m with
  |zero =>
   rw[if_pos (keeps_lt_one _ 0 (by omega))]
   simp[dedup]
  |succ m =>
   have ub:zs.toArray[m]! = nth zs m:=by simp[nth,show m<zs.length by omega]
   cases hz:zs with
   |nil=>rw[hz]at h;simp at h
   |cons x r =>
    rw[hz]at h hm ub;simp only[List.length_cons]at h;have Z4:(r.take m).getLastD x=nth (x::r) m:=by
     rw[List.getLastD_eq_getLast?,List.getLast?_take];cases m with
     |zero=>simp[nth]
     |succ m =>
      have:m<r.length:=by omega
      simp[nth,this]
    simp only[List.take_succ_cons,Option.toList_some];rw[QC,List.cons_append,List.cons_append,QC,abF,Z4];by_cases hk:nth (x::r) (m+1)=nth (x::r) m
    ·rw[keeps_neg (by omega) (by simp only[Nat.add_sub_cancel];rw[hm,ub,hk])]
     simp[hk]
    ·rw[keeps_pos (by simp only[Nat.add_sub_cancel];rw[hm,ub];exact hk)]
     simp[hk]
theorem apB(zs:List Int):compactUpTo zs.toArray zs.toArray.size=dedup zs:=by
 have:=abG (zs:=zs) (m:=zs.length) (Nat.le_refl _)
 rwa [List.take_length]at this
theorem apC:qD Tryz.prog 0 246 where
 fn:=⟨_,Tryz.func246,by kernel_rfl,by kernel_rfl⟩
 run:=fun w b cap zs c e hb hc h1 h2 h3=>by
  have h3:zs.length≤4294967296:=h3;have bA:b<w.heap.size:=(Array.getElem?_eq_some_iff.1 hb).1;refine(AnyM.slices_Sort_int Tryz.alr b 0 cap zs w (holds_of hb hc) bA (by omega)).mono fun r w' ⟨hr,n,os,hw⟩=>?_
  have hl:=(zN zs).length_eq;rw[←afG]at hw;refine⟨hr,_,abE hb hw,by simp[Go.Sort.putCells],fun j z hz=>?_,fun j hj=>?_⟩
  ·have QD:(nb zs)[j]?=some z:=hz
   have hj:=eK QD;rw[KD,if_pos (by simpa using hj)]
   have Cn:j<c.size:=by omega
   simp only[Array.getElem?_eq_getElem Cn,Option.map_some];congr 2;rw[List.getElem?_eq_getElem hj]at QD;cases QD;simp[hj]
  ·rw[KD,if_neg (by simp;omega)]
theorem apD:qD Tryz.prog 1 247 where
 fn:=⟨_,Tryz.func247,by kernel_rfl,by kernel_rfl⟩
 run:=fun w b cap zs c e hb hc h1 h2 h3=>by
  have h3:zs.length≤4294967296:=h3;have bA:b<w.heap.size:=(Array.getElem?_eq_some_iff.1 hb).1;refine(AnyE.slices_Compact Tryz.alu (Value.int .i64) (fun _=>rfl) (EqlAt.intD _ _ .i64) (NeqAt.intD _ _ .i64) 0 Tryz.zeroValue3 b 0 cap zs.toArray w (holds_of hb hc) (by simp;omega) (by simpa using h1)).mono fun r w' ⟨hr,n,hw⟩=>?_
  rw[apB]at hr hw;have hd:=Df zs;have sQ:w'=Go.Sort.grow (Go.Sort.putRow (Value.int .i64) (Go.Sort.ahead w n) b 0 (tC 1 zs).toArray) #[]:=by
   rw[Go.Sort.grow_empty];exact hw
  refine⟨hr,_,abE hb sQ,by simp[Go.Sort.putCells],fun j z hz=>?_,fun j hj=>?_⟩
  ·have hj:=eK hz
   have hl:=M7 1 zs;rw[KD,if_pos (by simpa using hj)]
   have Cn:j<c.size:=by omega
   simp only[Array.getElem?_eq_getElem Cn,Option.map_some];congr 2;rw[List.getElem?_eq_getElem hj]at hz;cases hz;simp[hj]
  ·have hl:=M7 1 zs
   rw[KD,if_neg (by simp;omega)]
theorem apE:M8 Tryz.prog 182 where
 fn:=⟨_,Tryz.func182,by kernel_rfl,by kernel_rfl⟩
 run:=fun w n h0 hl=>by
  obtain⟨k,rfl⟩:=Int.eq_ofNat_of_zero_le h0;have hl:(k:Int)≤4294967296:=hl;have hi:(Tryz.prog.info? 3).map (fun i=>(i.zero,i.size,i.bytes))=some (some (.int .i64 0),1,8):=by kernel_rfl
  obtain⟨i0,hi,he⟩:=Option.map_eq_some_iff.1 hi;simp only[Prod.mk.injEq]at he;obtain⟨hz,hs,hb⟩:=he;by_cases hk:k=0
  ·subst hk
   exact(Any8.slices_Grow_room Tryz.YD none 0 0 0 w (by omega) (by omega) (by omega) (by omega)).mono fun r w' h=>.inl h
  ·refine(Any8.slices_Grow_grow Tryz.YD i0 (.int .i64 0) hi hz (by omega) none 0 0 k [] w (by omega) (by omega) (by rw[hb];omega) (by omega) (by simp) (fun _=>rfl) (fun a h=>by cases h)).mono fun r w' h=>?_
   obtain⟨rfl,rfl⟩:=h;exact .inr ⟨_,_,_,rfl,rfl,rfl,rfl,rfl,by
    have:=grownCap_ge w (0+k) 0 (Tryz.YC.t 25);simp[Builtin.zeroCells,Value.cells];omega⟩
theorem apF(f k:Nat)(h:Go.Vm.look f F5=some k):qD Tryz.prog k f:=by
 simp only[F5,Go.Vm.look]at h;by_cases h0:(182==f)=true
 ·rw[h0]at h
  cases h;have:=eq_of_beq h0;subst this;exact apE
 rw[Bool.eq_false_iff.2 h0]at h;by_cases h1:(246==f)=true
 ·rw[h1]at h
  cases h;have:=eq_of_beq h1;subst this;exact apC
 ·rw[Bool.eq_false_iff.2 h1]at h
  by_cases h2:(247==f)=true
  ·rw[h2]at h
   cases h;have:=eq_of_beq h2;subst this;exact apD
  ·rw[Bool.eq_false_iff.2 h2]at h
   cases h
end Go.Proofs.YtocclbnghhaejaaGreat
namespace Go.Proofs.YtocclbnghhaejaaGreat
set_option linter.all false
open Go.Vm
open Go.ChangeShapes Go.WideShapes Go.ChangeAt Go.RowKit
theorem Tryz.own:ownKnob Tryz.prog.godebug=none:=by kernel_rfl
theorem Tryz.laidOut:laidOutB Tryz.prog=true:=by kernel_rfl
theorem QE:oD Tryz.prog (aX F):=aeR (E5 apF Tryz.checked.mixed alp)
end Go.Proofs.YtocclbnghhaejaaGreat

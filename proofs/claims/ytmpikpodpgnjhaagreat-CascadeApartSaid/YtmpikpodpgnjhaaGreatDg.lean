/- Parts of the proof, joined: Flo3, Sne1, Cdm1, Pth1, Apt1, Apa1, Mut1, End0. -/
import Derived.Test.YtmpikpodpgnjhaaGreatDf
import Derived.Test.YtmpikpodpgnjhaaGreatSh
import Derived.Test.YtmpikpodpgnjhaaGreatQV
import Derived.Test.YtmpikpodpgnjhaaGreatVmN
import Derived.Test.YtmpikpodpgnjhaaGreatRows
namespace Go.Proofs.YtmpikpodpgnjhaaGreat
set_option linter.all false
open Go.Vm
attribute [local simp] eU eV eS eT
theorem amp{l:List Int}{k:Nat}(hd:eM l k){c:Cs}(hc:Cm c){s:List Ds}(hs:m8 c s):∃f k',bn F 53 [.bO 0 0,cs c,tY s] [dk l k]=some (fl f,[dk l k'])∧eM l k'∧kB c f∧hB c f 10:=by
 suffices h:∀Q:V→List aW→Prop,(∀f k',eM l k'→kB c f→hB c f 10→Q (fl f) [dk l k'])→jq (bn F) 53 [.bO 0 0,cs c,tY s] [dk l k] Q by
  obtain⟨_,_,h,f,k',rfl,rfl,h1⟩:=h (fun v G=>∃f k',v=fl f∧G=[dk l k']∧eM l k'∧kB c f∧hB c f 10) fun f k' a b d=>⟨f,k',rfl,rfl,a,b,d⟩;exact⟨f,k',h,h1⟩
 intro Q hQ;refine jV rfl rfl ?_;have cv:=oZ hc.mT;have kv:=nP cv.k;have VH:=hc.small;have hn6:=hc.n;obtain⟨G1,j8⟩:=apM c VH s (Nw hc.mT hs);have h0:pE c s=.tuple [fl (pa c s),i64 0]:=by unfold pE;rw[show pD c s=0 by unfold pD;rw[if_neg (by have:=hc.mT;omega),if_pos hs]];rfl
 rw[h0]at j8;obtain⟨m,k1,n1,kd,hm⟩:=gU hd 6 (by omega)
 have NR:=(VF hc.mT).2 hs;have Jf:=amo (c:=c) (s:=s);generalize pa c s=f0 at j8 NR Jf;simp +contextual (disch:=omega) [-getElem?_pos,-List.length_eq_zero_iff,-Int.natCast_eq_zero,wrap64,Ru,j8,n1];refine go_loop (fun y:Fl×Int×Nat=>aoV (.bO 0 0) y.2.1 c.row [i64 0,.aK,.aK] y.1.row [dk l y.2.2])
  (fun y=>kB c y.1∧(0≤y.2.1∧y.2.1≤10)∧eM l y.2.2∧hB c y.1 (10-y.2.1)) (fun y=>y.2.1.toNat) (f0,m,k1) rfl (by simp) ⟨NR,by simp only;omega,kd,Jh cv.k Jf (by simp only;omega)⟩ ?_
 rintro⟨f,x,k⟩ ⟨h1,h2,hd,hh⟩;simp only at h1 h2 hd hh;simp +contextual (disch:=omega) [-getElem?_pos,-List.length_eq_zero_iff,-Int.natCast_eq_zero,wrap64,aaC];refine b9 (fun h3=>?_) (fun h3=>?_)
 ·obtain⟨p,k2,n2,ik,hp,ha,hb,uF⟩:=ajF hd (c:=c) (by have:=kv.n;omega) (by have:=cv.s;omega)
  have Xj:=cv.s;have mn:p.a.length≤1000∧p.b.length≤1000∧p.c.length≤1000:=by have:=hp;unfold oq at this;omega
  obtain⟨G2,hS⟩:=apU VH (akp cv.k h1) mn;by_cases he:ot c f p=0
  ·rw[sW,if_pos he]at hS
   have AN:=(ako he).fl;have Dc:=Jh cv.k (amn (ako he) (by omega) hh).1 (show 10-x+1≤10-(x-1) by omega)
   generalize wo c f p=f2 at hS AN Dc;generalize zV c f p=pp at hS;simp +contextual (disch:=omega) [-getElem?_pos,-List.length_eq_zero_iff,-Int.natCast_eq_zero,wrap64,n2,hS];exact cc (f2,x-1,k2) (by simp) ⟨AN,by simp only;omega,ik,Dc⟩ (by simp only;omega)
  ·rw[sW,if_neg he]at hS
   simp +contextual (disch:=omega) [-getElem?_pos,-List.length_eq_zero_iff,-Int.natCast_eq_zero,wrap64,n2,hS,decide_eq_false he];exact cc (f,x-1,k2) (by simp) ⟨h1,by simp only;omega,ik,Jh cv.k hh (by simp only;omega)⟩ (by simp only;omega)
 ·exact hQ f k hd h1 (Jh cv.k hh (by omega))
theorem amr{l:List Int}{k:Nat}(hd:eM l k):∃c f k',bn F 15 [.bO 0 0] [dk l k]=some (.tuple [cs c,fl f],[dk l k'])∧eM l k'∧Cm c∧kB c f∧hB c f 10:=by
 suffices h:∀Q:V→List aW→Prop,(∀c f k',eM l k'→Cm c→kB c f→hB c f 10→Q (.tuple [cs c,fl f]) [dk l k'])→jq (bn F) 15 [.bO 0 0] [dk l k] Q by
  obtain⟨_,_,h,c,f,k',rfl,rfl,h1⟩:=h (fun v G=>∃c f k',v=.tuple [cs c,fl f]∧G=[dk l k']∧eM l k'∧Cm c∧kB c f∧hB c f 10) fun c f k' a b d e=>⟨c,f,k',rfl,rfl,a,b,d,e⟩;exact⟨c,f,k',h,h1⟩
 intro Q hQ;refine jV rfl rfl ?_;obtain⟨c,s,k1,n1,kd,hc,hs⟩:=apN hd;obtain⟨f,k2,n2,ik,hf,hb⟩:=amp kd hc hs;simp +contextual (disch:=omega) [-getElem?_pos,-List.length_eq_zero_iff,-Int.natCast_eq_zero,wrap64,Re,n1,n2];exact hQ c f k2 ik hc hf hb
end Go.Proofs.YtmpikpodpgnjhaaGreat
namespace Go.Proofs.YtmpikpodpgnjhaaGreat
set_option linter.all false
open Go.Vm
attribute [local simp] eU eV eS eT
abbrev EH:Rc:=⟨[0,1],1⟩
abbrev gz:Cs:=⟨⟨2,[⟨0,1,EH⟩]⟩,[]⟩
theorem EI:e8 EH=0:=by
 unfold e8;rw[if_neg (by decide),if_neg (by decide),if_pos,if_pos (by decide)]
 intro i hi;have:i=0∨i=1:=by simp at hi;omega
 rcases this with rfl|rfl<;>decide
theorem akv:jJ gz.r=0:=by
 unfold jJ;rw[if_neg (by decide)]
 show(if lE gz.r 0=0 then (0:Int) else lE gz.r 0)=0
 have:lE gz.r 0=0:=by
  unfold lE;simp only;rw[if_pos (by decide),if_neg (by decide),if_neg (by decide)]
  exact EI
 rw[if_pos this]
theorem H9:gu gz=0:=by
 unfold gu;rw[if_neg (fun g=>g akv),if_neg (by decide),if_neg (by decide)]
 rfl
theorem Ia:oo gz.r:=⟨by decide,fun i hi=>by
 have:i=0:=by simp at hi;omega
 subst this
 decide⟩
theorem NL{t:Int}{p:List Int}(h:p.length≤10):ua ⟨t,[],[p]⟩:=fun i=>by
 cases i with
 |zero=>show p.length≤_;omega
 |succ i=>exact Nat.zero_le _
theorem Ib:∀p:List Int,p=[]∨p=[7]→iv EH p:=fun p h=>by
 rcases h with rfl|rfl
 ·exact⟨by decide,by decide,fun i hi=>by simp at hi⟩
 ·refine⟨by decide,by decide,fun i hi=>?_⟩
  have:i=0:=by simp at hi;omega
  subst this;decide
theorem akw:gD EH [] 7=0:=by
 unfold gD;rw[if_neg (fun g=>g EI),if_pos (Ib _ (.inl rfl)),if_pos];refine⟨by decide,fun i hi=>?_⟩
 have:i=0∨i=1:=by simp at hi;omega
 rcases this with rfl|rfl<;>decide
theorem akx:gD EH [7] 0=0:=by
 unfold gD;rw[if_neg (fun g=>g EI),if_pos (Ib _ (.inr rfl)),if_pos];refine⟨by decide,fun i hi=>?_⟩
 have:i=0∨i=1:=by simp at hi;omega
 rcases this with rfl|rfl<;>decide
abbrev wy:Sp:=⟨[7,0],[],[]⟩
abbrev wz:Sp:=⟨[0,0],[],[]⟩
abbrev uX:Fl:=⟨0,[],[[]]⟩
abbrev uc:Fl:=⟨1,[],[[7]]⟩
theorem aky:kB gz uX:=⟨by decide,⟨rfl,by simp⟩,rfl,fun i hi=>by
 have:i=0:=by simp at hi;omega
 subst this;exact⟨EI,Ib _ (.inl rfl)⟩⟩
theorem V9:kB gz uc:=⟨by decide,⟨rfl,by simp⟩,rfl,fun i hi=>by
 have:i=0:=by simp at hi;omega
 subst this;exact⟨EI,Ib _ (.inr rfl)⟩⟩
theorem xD(k:Int):me gz.s k=none:=rfl
theorem Ic:lu gz.r.l ((0:Nat):Int)=some 0:=rfl
theorem Ie:lu gz.r.l ((1:Nat):Int)=none:=rfl
theorem Wa:cB gz wy uX 1=⟨[7,0],[],[[7]],[],[7],[0]⟩:=by
 show vS gz wy ⟨[7,0],[],[[]],[],[],[]⟩ 0=_;unfold vS vL vD fG;rw[xD,Ic];rfl
theorem Wb:cB gz wy uX 2=⟨[7,0],[],[[7]],[],[7,0],[0]⟩:=by
 show vS gz wy (cB gz wy uX 1) 1=_;rw[Wa];unfold vS vL vD fG;rw[xD,Ie];rfl
theorem Wc:cB gz wz uc 1=⟨[0,7],[],[[]],[],[0],[7]⟩:=by
 show vS gz wz ⟨[0,0],[],[[7]],[],[],[]⟩ 0=_;unfold vS vL vD fG;rw[xD,Ic];rfl
theorem Wd:cB gz wz uc 2=⟨[0,7],[],[[]],[],[0,7],[7]⟩:=by
 show vS gz wz (cB gz wz uc 1) 1=_;rw[Wc];unfold vS vL vD fG;rw[xD,Ie];rfl
theorem We{l:List Int}(h:∀x∈l,x=0∨x=7):fN l 1073741824:=fun i hi=>by
 have:=h _ (qd hi);omega
theorem akz:ot gz uX wy=0:=by
 unfold ot;have hr:o0 gz uX=0:=by unfold o0;rw[if_neg (fun g=>g H9),if_pos aky]
 rw[if_neg (fun g=>g hr)];unfold jK;rw[if_pos (by decide),if_pos (We (by simp)),if_neg (by decide)]
 refine rC fun k _ hk=>?_;have:k=0∨k=1:=by have:gz.r.n.toNat=2:=rfl;omega
 rcases this with rfl|rfl
 ·unfold vE lO nQ fG
  rw[xD,Ic];exact akw
 ·unfold vE lO nQ fG
  rw[Wa,xD,Ie];rfl
theorem akA:ot gz uc wz=0:=by
 unfold ot;have hr:o0 gz uc=0:=by unfold o0;rw[if_neg (fun g=>g H9),if_pos V9]
 rw[if_neg (fun g=>g hr)];unfold jK;rw[if_pos (by decide),if_pos (We (by simp)),if_neg (by decide)]
 refine rC fun k _ hk=>?_;have:k=0∨k=1:=by have:gz.r.n.toNat=2:=rfl;omega
 rcases this with rfl|rfl
 ·unfold vE lO nQ fG
  rw[xD,Ic];exact akx
 ·unfold vE lO nQ fG
  rw[Wc,xD,Ie];rfl
abbrev cw:V:=.agg [i64 2,.slice none 4 [[i64 0,i64 1,.slice none 1 [[i64 0],[i64 1]],i64 1]],.slice none 10 []]
theorem NM(G:List aW):bn F 12 [] G=some (.bool true,G) :=
 cg rfl rfl (by
  obtain⟨G1,h1⟩:=ajB gz Ia [];obtain⟨t2,G2,h2⟩:=NF Ia (f:=uX) (NL (by decide)) wy
  obtain⟨t3,G3,h3⟩:=NF Ia (f:=uc) (NL (by decide)) wz
  have h4:=ajo gz Ia uc (NL (by decide))
  rw[decide_eq_true ⟨H9,V9⟩]at h4;rw[show pE gz []=.tuple [fl uX,i64 0] by unfold pE;rw[show pD gz []=0 by unfold pD;rw[if_neg (fun g=>g H9),if_pos ⟨rfl,by simp⟩]];rfl]at h1
  rw[sW,if_pos akz,show wo gz uX wy=uc by unfold wo;rw[show gz.r.n.toNat=2 from rfl,Wb];rfl,show zV gz uX wy=⟨[],[7,0],[0]⟩ by unfold zV;rw[show gz.r.n.toNat=2 from rfl,Wb]]at h2
  rw[sW,if_pos akA,show wo gz uc wz=⟨2,[],[[]]⟩ by unfold wo;rw[show gz.r.n.toNat=2 from rfl,Wd];rfl,show zV gz uc wz=⟨[],[0,7],[7]⟩ by unfold zV;rw[show gz.r.n.toNat=2 from rfl,Wd]]at h3
  replace h1:bn F 31 [cw,.slice none 4 []] []=some (.tuple [.agg [i64 0,.slice none 4 [],.slice none 1 [[.slice none 1 []]]],i64 0],G1):=h1;replace h2:bn F 17 [cw,.agg [i64 0,.slice none 4 [],.slice none 1 [[.slice none 1 []]]],.agg [.slice none 1 [[i64 7],[i64 0]],.slice none 1 [],.slice none 1 []]] [] =
   some (.tuple [.agg [i64 1,.slice none 4 [],.slice none 1 [[.slice none 1 [[i64 7]]]]],.agg [.slice none 7 [],.slice none 1 [[i64 7],[i64 0]],.slice none 1 [[i64 0]]],i64 0],G2):=h2
  replace h3:bn F 17 [cw,.agg [i64 1,.slice none 4 [],.slice none 1 [[.slice none 1 [[i64 7]]]]],.agg [.slice none 1 [[i64 0],[i64 0]],.slice none 1 [],.slice none 1 []]] [] =
   some (.tuple [.agg [i64 2,.slice none 4 [],.slice none 1 [[.slice none 1 []]]],.agg [.slice none 7 [],.slice none 1 [[i64 0],[i64 7]],.slice none 1 [[i64 7]]],i64 0],G3):=h3
  replace h4:∀G,bn F 28 [cw,.agg [i64 1,.slice none 4 [],.slice none 1 [[.slice none 1 [[i64 7]]]]]] G=some (.bool true,G):=h4;simp +contextual (disch:=omega) [-getElem?_pos,-List.length_eq_zero_iff,-Int.natCast_eq_zero,wrap64,KA,h1,h2,h3,h4])
end Go.Proofs.YtmpikpodpgnjhaaGreat
namespace Go.Proofs.YtmpikpodpgnjhaaGreat
set_option linter.all false
open Go.Vm
noncomputable abbrev fin(c:Cs)(p:Sp)(f:Fl):Co:=cB c p f c.r.n.toNat
theorem akB{c:Cs}{p:Sp}{f:Fl}(h:Pa c f p){k:Nat}(hk:k≤c.r.n.toNat){m:Nat}(hm:m<(cB c p f k).cm.length):nth (fin c p f).cm m=nth (cB c p f k).cm m:=by
 have hc:=oZ h.c0;have hl:m<(fin c p f).cm.length:=by
  have e:=(NG hc p f).2;have:=(zW hc p f k).l.1;rw[show(fin c p f).cm.length=c.r.l.length from e];omega
 obtain⟨a,_,a2,a3⟩:=(BR h (Nat.le_refl _)).link m hl;obtain⟨b,_,b2,b3⟩:=(BR h hk).link m hm;obtain rfl:a=b:=by omega
 rw[a3.o,b3.o]
theorem Wf{c:Cs}{l l':List Int}{j:Int}:∀{m:Nat},(∀i,i<m→nth l i=nth l' i)→jL c l j m=jL c l' j m
 |0,_=>rfl
 |m+1,h=>by
  simp only[jL];rw[Wf fun i hi=>h i (by omega),h m (by omega)]
theorem Wg{c:Cs}{l:List Int}{j:Int}{m:Nat}:∀{n:Nat},(∀i,m≤i→i<m+n→(nth c.r.l i).t≠j)→jL c l j (m+n)=jL c l j m
 |0,_=>rfl
 |n+1,h=>by
  rw[show m+(n+1)=(m+n)+1 by omega]
  simp only[jL];rw[Wg fun i a b=>h i a (by omega),if_neg (h (m+n) (by omega) (by omega)),Int.add_zero]
theorem Wh{c:Cs}{l:List Int}{j:Int}:∀{m:Nat},(∀i,i<m→0≤nth l i∧nth l i≤1125899906842624)→0≤jL c l j m∧jL c l j m≤1125899906842624*m
 |0,_=>by simp[jL]
 |m+1,h=>by
  have:=Wh (c:=c) (j:=j) fun i hi=>h i (Nat.lt_succ_of_lt hi);have:=h m (by omega)
  simp only[jL];split<;>omega
theorem akC{c:Cs}{p:Sp}{f:Fl}(h:Pa c f p){k:Nat}(hk:k<c.r.n.toNat):nth (cB c p f k).arr k=nth p.a k+jL c (fin c p f).cm k c.r.l.length:=by
 have hc:=oZ h.c0;have hv:=h.vc (k:=k) (by omega)
 have ho:=(zW hc p f k).l;rw[(BR h (by omega)).arr k (by have:=hv.xw;omega),Wf (l:=(cB c p f k).cm) (l':=(fin c p f).cm) fun i hi=>(akB h (by omega) hi).symm]
 obtain⟨d,hd⟩:∃d,c.r.l.length=(cB c p f k).cm.length+d:=⟨c.r.l.length-(cB c p f k).cm.length,by have:=ho.1;omega⟩
 rw[hd,Wg fun i a b=>?_];have h1:=ho.2.2 i a (by omega)
 have h2:=((nP hc.k).link (i:=i) (by omega)).1
 have h1:(k:Int)≤(nth c.r.l i).f:=h1;omega
end Go.Proofs.YtmpikpodpgnjhaaGreat
namespace Go.Proofs.YtmpikpodpgnjhaaGreat
set_option linter.all false
open Go.Vm
attribute [local simp] eU eV eS eT
theorem apR(n:Int)(l:List Lk)(hl:l.length≤1000)(x:Int)(G:List aW):bn F 36 [.agg [i64 n,nN l],i64 x] G=some (i64 (rK (lu l x)),G) :=
 cg rfl rfl (by
  generalize hW:rK (lu l x)=W;simp +contextual (disch:=omega) [-getElem?_pos,-List.length_eq_zero_iff,-Int.natCast_eq_zero,wrap64,UE];refine go_loop (fun i:Nat=>aih x (nN l) l.length i G) (fun i=>i≤l.length∧rK (fd (fun i=>decide ((nth l i).f=x)) (l.length-i) i)=W) (fun i=>l.length-i) 0 rfl (by simp) ⟨by omega,hW⟩ ?_
  rintro i ⟨hi,hw⟩;simp +contextual (disch:=omega) [-getElem?_pos,-List.length_eq_zero_iff,-Int.natCast_eq_zero,wrap64,abe];refine b9 (fun h5=>?_) (fun h5=>?_)
  ·have h5:i<l.length:=by omega
   rw[VA h5]at hw;by_cases h6:(nth l i).f=x
   ·rw[if_pos (by simpa using h6)]at hw
    simp +contextual (disch:=omega) [-getElem?_pos,-List.length_eq_zero_iff,-Int.natCast_eq_zero,wrap64,bo (l:=l),h6];exact hw
   ·rw[if_neg (by simpa using h6)]at hw
    simp +contextual (disch:=omega) [-getElem?_pos,-List.length_eq_zero_iff,-Int.natCast_eq_zero,wrap64,bo (l:=l),h6];exact cc (i+1) (by simp) ⟨by omega,hw⟩ (by omega)
  ·obtain rfl:i=l.length:=by omega
   rw[VB]at hw;exact hw)
theorem Kv.YH{r:Rr}(h:Kv r):∀{j i:Nat},i<j→j<r.l.length→(nth r.l i).f<(nth r.l j).f
 |j+1,i,hi,hj=>by
  have a:=(h.link hj).2.1 (by omega)
  rw[Nat.add_sub_cancel]at a;rcases Nat.lt_or_ge i j with g|g
  ·exact Int.lt_trans (Kv.YH h g (by omega)) a
  ·obtain rfl:i=j:=by omega
   exact a
theorem Kv.inj{r:Rr}(h:Kv r){i j:Nat}(hi:i<r.l.length)(hj:j<r.l.length)(e:(nth r.l i).f=(nth r.l j).f):i=j:=by
 rcases Nat.lt_trichotomy i j with g|g|g
 ·have:=h.YH g hj;omega
 ·exact g
 ·have:=h.YH g hi;omega
structure Pa0(l:List Lk)(n m:Int)(L:List Int):Prop where
 one:n∈L
 last:m∈L
 clo:∀a∈L,a≠m→∀i,i<l.length→(nth l i).f=a→(nth l i).t∈L
 le:(L.length:Int)≤m+1
theorem apX{r:Rr}(hr:oo r)(hk:jJ r=0){n:Int}(hn:0≤n∧n<r.n)(G:List aW) :
  ∃B,bn F 18 [rr r,i64 n] G=some (.tuple [uV B,i64 0],G)∧n∈B∧(∀a∈B,∀i,i<r.l.length→(nth r.l i).f=a→(nth r.l i).t∈B)∧B.length≤40:=by
 suffices h:∀Q:V→List aW→Prop,(∀B:List Int,n∈B→(∀a∈B,∀i,i<r.l.length→(nth r.l i).f=a→(nth r.l i).t∈B)→B.length≤40→Q (.tuple [uV B,i64 0]) G)→jq (bn F) 18 [rr r,i64 n] G Q by
  obtain⟨_,_,h,B,rfl,rfl,h1⟩:=h (fun v G'=>∃B,v=.tuple [uV B,i64 0]∧G'=G∧n∈B∧(∀a∈B,∀i,i<r.l.length→(nth r.l i).f=a→(nth r.l i).t∈B)∧B.length≤40) fun B a b d=>⟨B,rfl,rfl,a,b,d⟩;exact⟨B,h,h1⟩
 intro Q hQ;refine jV rfl rfl ?_;have hC:=HO r hr;rw[hk]at hC;have kv:=nP hk;have ji:=kv.n;have IE:=kv.len;have hL:=fun x=>apR r.n r.l (by omega) x
 obtain⟨EY,u7⟩:=hn;have hn2:n≤r.n-1:=by omega
 simp +contextual (disch:=omega) [-getElem?_pos,-List.length_eq_zero_iff,-Int.natCast_eq_zero,wrap64,UD,hC,hL,c5,EY,hn2];refine go_loop (fun y:List Int×Int=>aic (.slice (some 1021) 1 (y.1.map fun n=>[i64 n])) (rK (lu r.l y.2)) [i64 r.n,nN r.l] y.1.length G)
  (fun y=>Pa0 r.l n y.2 y.1∧0≤y.2∧y.2<r.n) (fun y=>(r.n-y.2).toNat) ([n],n) rfl (by simp) ⟨⟨by simp,by simp,fun a ha cF=>absurd (by simpa using ha) cF,by simp;omega⟩,by simp only;omega,by simp only;omega⟩ ?_
 rintro⟨L,m⟩ ⟨h1,h2,h3⟩;simp only at h1 h2 h3;simp +contextual (disch:=omega) [-getElem?_pos,-List.length_eq_zero_iff,-Int.natCast_eq_zero,wrap64,aaU];cases hf:lu r.l m with
 |none =>
  have lh:¬ (0:Int)≤rK none:=by decide
  simp +contextual (disch:=omega) [-getElem?_pos,-List.length_eq_zero_iff,-Int.natCast_eq_zero,wrap64,lh];refine hQ L h1.one (fun a ha i hi he=>?_) (by have:=h1.le;omega)
  by_cases g:a=m
  ·have:=VZ (c:=⟨r,[]⟩) (k:=m.toNat) (by rw[Int.toNat_of_nonneg h2];exact hf) i hi
   have:(nth r.l i).f≠(m.toNat:Int):=this;omega
  ·exact h1.clo a ha g i hi he
 |some j =>
  obtain⟨q1,q2⟩:=xB (c:=⟨r,[]⟩) (k:=m.toNat) (i:=j) (by rw[Int.toNat_of_nonneg h2];exact hf)
  have q2:(nth r.l j).f=(m.toNat:Int):=q2;have q1:j<r.l.length:=q1;have q3:=(kv.link q1).1;have q4:=(kv.link q1).2.1;have apZ:(0:Int)≤rK (some j):=by simp[rK]
  have e:rK (some j)=(j:Int):=rfl;have hle:=h1.le;simp +contextual (disch:=omega) [-getElem?_pos,-List.length_eq_zero_iff,-Int.natCast_eq_zero,wrap64,apZ,e,bo (l:=r.l),hL];refine cc (L++[(nth r.l j).t],(nth r.l j).t) (by simp) ⟨⟨by simp[h1.one],by simp,fun a ha cF i hi he=>?_,by simp;omega⟩,by simp only;omega,by simp only;omega⟩ (by simp only;omega)
  simp only[List.mem_append,List.mem_singleton]at ha ⊢;rcases ha with ha|ha
  ·by_cases g:a=m
   ·right
    obtain rfl:i=j:=kv.inj hi q1 (by omega)
    rfl
   ·exact .inl (h1.clo a ha g i hi he)
  ·exact absurd ha cF
end Go.Proofs.YtmpikpodpgnjhaaGreat
namespace Go.Proofs.YtmpikpodpgnjhaaGreat
set_option linter.all false
open Go.Vm
theorem agS{c:Cs}{l l':List Int}{j:Int}:∀{m:Nat},(∀i,i<m→(nth c.r.l i).t=j→nth l i=nth l' i)→jL c l j m=jL c l' j m
 |0,_=>rfl
 |m+1,h=>by
  simp only[jL];rw[agS fun i hi=>h i (by omega)]
  split
  ·rw[h m (by omega) (by assumption)]
  ·rfl
theorem apart{c:Cs}{p q:Sp}{f:Fl}(hp:Pa c f p)(hq:Pa c f q)(hb:q.b=p.b)(hc:q.c=p.c){B:List Int}(hB:∀a∈B,∀i,i<c.r.l.length→(nth c.r.l i).f=a→(nth c.r.l i).t∈B)
  (ha:∀k:Nat,(k:Int)∉B→nth q.a k=nth p.a k):∀k:Nat,k<c.r.n.toNat→(k:Int)∉B→fG c q (cB c q f k) k=fG c p (cB c p f k) k:=by
 intro k;induction k using Nat.strongRecOn with
 |ind k ih =>
  intro hk Ep;have hv:=oZ hp.c0;have agT:nth (cB c q f k).arr k=nth (cB c p f k).arr k:=by
   rw[akC hp hk,akC hq hk,ha k Ep];congr 1;refine agS fun i hi ht=>?_;have e1:=(NG hv p f).2;have e2:=(NG hv q f).2;obtain⟨a,a1,a2,a3⟩:=(BR hp (Nat.le_refl _)).link i (by omega)
   obtain⟨b,b1,b2,b3⟩:=(BR hq (Nat.le_refl _)).link i (by omega)
   obtain rfl:b=a:=by omega
   have hl:=((nP hv.k).link hi).1;have a2:(nth c.r.l i).f=(b:Int):=a2;rw[a3.o,b3.o,ih b (by omega) b1 fun h=>Ep (by rw[←ht];exact hB _ h i hi a2)]
  unfold fG;cases hs:me c.s k with
  |none=>exact agT
  |some i =>
   obtain⟨q1,q2⟩:=xA hs;have q3:=fun p=>(uW (zW hv p f k).s (fun j h0 hj=>(xz hv hj).2.1 h0) q1 q2).1;simp only[vR];rw[agT,hb,hc,(NJ hv q f k).d.2 i (by have:=q3 q;omega),(NJ hv p f k).d.2 i (by have:=q3 p;omega)]
theorem ap0{c:Cs}{p q:Sp}{f:Fl}(hp:Pa c f p)(hq:Pa c f q)(hb:q.b=p.b)(hc:q.c=p.c){B:List Int}(hB:∀a∈B,∀i,i<c.r.l.length→(nth c.r.l i).f=a→(nth c.r.l i).t∈B)
  (ha:∀k:Nat,(k:Int)∉B→nth q.a k=nth p.a k) {k:Nat} (hk:k<c.r.n.toNat) (Ep:(k:Int)∉B):nth (zV c f q).lf k=nth (zV c f p).lf k:=by
 have h1:=(BR hp (Nat.le_refl _)).lf k hk;have h2:=(BR hq (Nat.le_refl _)).lf k hk;simp only[zV];rw[h1,h2];exact apart hp hq hb hc hB ha k hk Ep
end Go.Proofs.YtmpikpodpgnjhaaGreat
namespace Go.Proofs.YtmpikpodpgnjhaaGreat
set_option linter.all false
open Go.Vm
attribute [local simp] eU eV eS eT
set_option maxRecDepth 100000 in
set_option maxHeartbeats 4000000 in
theorem ap1{l:List Int}(hl:l.length≤9223372036854775807){node w:Int}(O2:0≤node∧node≤255)(hw:0≤w∧w≤255):∃G',bn F 3 [ints l,.int .u8 node,.int .u8 w] []=some (.bool true,G'):=by
 suffices h:jq (bn F) 3 [ints l,.int .u8 node,.int .u8 w] [] fun v _=>v=.bool true by
  obtain⟨_,G,h,rfl⟩:=h;exact⟨G,h⟩
 refine jV rfl rfl ?_;by_cases h1:l.length≤500
 case neg=>simp +contextual (disch:=omega) [-getElem?_pos,-List.length_eq_zero_iff,-Int.natCast_eq_zero,wrap64,zS,NM,L8,h1]
 obtain⟨c,f,k1,n1,kd,Ig,kN,_⟩:=amr (l:=l) (k:=0) ⟨by omega,hl⟩
 have hz:=Ig.mT;have cv:=oZ hz;have kv:=nP cv.k;have VH:=Ig.small;have hn6:=Ig.n;have hs3:=Ig.s;have ji:=kv.n;have IE:=kv.len;obtain⟨p,k2,n2,ik,hp,ap2,_,_⟩:=ajF kd (c:=c) (by omega) (by omega)
 have mn:=hp.1;obtain⟨n,hn⟩:∃n:Nat,node.tmod c.r.n=n:=⟨(node.tmod c.r.n).toNat,by rw[Int.toNat_of_nonneg (Int.tmod_nonneg _ O2.1)]⟩
 have vp:(n:Int)<c.r.n:=by rw[←hn];exact Int.tmod_lt_of_pos _ (by omega)
 have qF:n<p.a.length:=by omega
 have hpn:=ap2 n qF;obtain⟨t,G1,hS⟩:=NF VH (akp cv.k kN) p;obtain⟨qa,hqa⟩:∃qa,p.a.set n (nth p.a n+w)=qa:=⟨_,rfl⟩;obtain⟨t2,G2,yx⟩:=NF VH (akp cv.k kN) ⟨qa,p.b,p.c⟩;obtain⟨B,hB,hB1,hB2,hB3⟩:=apX VH cv.k (n:=n) (by omega) []
 have L6:p.a.isEmpty=false:=by cases e:p.a with|nil=>simp[e]at qF|cons=>rfl
 have L7:¬ c.r.n=0:=by omega
 have pk:¬ c.r.n = -1:=by omega
 have uD:qa.length=p.a.length:=by simp[←hqa]
 by_cases he:ot c f p=0
 case neg =>
  rw[sW,if_neg he]at hS;by_cases A1:ot c f ⟨qa,p.b,p.c⟩=0
  ·rw[sW,if_pos A1]at yx
   simp +contextual (disch:=omega) [-getElem?_pos,-List.length_eq_zero_iff,-Int.natCast_eq_zero,wrap64,zS,NM,L8,h1,Tl,n1,n2,L6,L7,hn,kT,hqa,uD,hS,yx,he]
  ·rw[sW,if_neg A1]at yx
   simp +contextual (disch:=omega) [-getElem?_pos,-List.length_eq_zero_iff,-Int.natCast_eq_zero,wrap64,zS,NM,L8,h1,Tl,n1,n2,L6,L7,hn,kT,hqa,uD,hS,yx,he]
 rw[sW,if_pos he]at hS;by_cases A1:ot c f ⟨qa,p.b,p.c⟩=0
 case neg =>
  rw[sW,if_neg A1]at yx;simp +contextual (disch:=omega) [-getElem?_pos,-List.length_eq_zero_iff,-Int.natCast_eq_zero,wrap64,zS,NM,L8,h1,Tl,n1,n2,L6,L7,hn,kT,hqa,uD,hS,yx,A1]
 rw[sW,if_pos A1]at yx;have pp:=ako he;have pq:=ako A1;have hap:=fun(k:Nat) (hk:k<c.r.n.toNat) (Ep:(k:Int)∉B)=>ap0 pp pq rfl rfl hB2 (fun j hj=>by
  show nth qa j=nth p.a j;rw[←hqa,xv qF,if_neg fun e=>hj (by rw[e];exact hB1)]) hk Ep
 have nk:(zV c f p).lf.length=c.r.n.toNat:=(pp.vc (Nat.le_refl _)).ll;have oG:(zV c f ⟨qa,p.b,p.c⟩).lf.length=c.r.n.toNat:=(pq.vc (Nat.le_refl _)).ll;generalize zV c f p=P at *;generalize zV c f ⟨qa,p.b,p.c⟩=P2 at *;simp +contextual (disch:=omega) [-getElem?_pos,-List.length_eq_zero_iff,-Int.natCast_eq_zero,wrap64,zS,NM,L8,h1,Tl,n1,n2,L6,L7,hn,kT,hqa,uD,hS,yx,hB];refine go_loop (fun i:Nat=>aia (ints B) P.lf.length i P.row P2.row [dk l k2]) (fun i=>i≤P.lf.length) (fun i=>P.lf.length-i) 0 rfl (by simp) (by simp) ?_
 rintro i hi;simp +contextual (disch:=omega) [-getElem?_pos,-List.length_eq_zero_iff,-Int.natCast_eq_zero,wrap64,aaT];refine b9 (fun h5=>?_) (fun h5=>?_)
 ·have h5:i<P.lf.length:=by omega
  have h6:i<P2.lf.length:=by omega
  refine go_loop (fun y:Nat×Bool=>ahF (ints B) i y.2 P.lf.length i (ints B) B.length y.1 P.row P2.row [dk l k2]) (fun y=>y.1≤B.length∧(y.2=false→∀m,m<y.1→nth B m≠i)) (fun y=>B.length-y.1) (0,false) rfl (by simp) ⟨by simp,fun _ m hm=>absurd hm (by simp)⟩ ?_
  rintro⟨j,b⟩ ⟨hj,hb⟩;simp only at hj hb;simp +contextual (disch:=omega) [-getElem?_pos,-List.length_eq_zero_iff,-Int.natCast_eq_zero,wrap64,aaP];refine b9 (fun h7=>?_) (fun h7=>?_)
  ·have h7:j<B.length:=by omega
   cases b with
   |true =>
    simp +contextual (disch:=omega) [-getElem?_pos,-List.length_eq_zero_iff,-Int.natCast_eq_zero,wrap64,eA (l:=B)];exact cc (j+1,true) (by simp) ⟨by simp only;omega,fun h=>by cases h⟩ (by simp only;omega)
   |false =>
    by_cases h8:nth B j=i
    ·simp +contextual (disch:=omega) [-getElem?_pos,-List.length_eq_zero_iff,-Int.natCast_eq_zero,wrap64,eA (l:=B),h8]
     exact cc (j+1,true) (by simp) ⟨by simp only;omega,fun h=>by cases h⟩ (by simp only;omega)
    ·simp +contextual (disch:=omega) [-getElem?_pos,-List.length_eq_zero_iff,-Int.natCast_eq_zero,wrap64,eA (l:=B),h8]
     refine cc (j+1,false) (by simp) ⟨by simp only;omega,fun _ m hm=>?_⟩ (by simp only;omega)
     simp only at hm;by_cases g:m=j
     ·rw[g];exact h8
     ·exact hb rfl m (by omega)
  ·cases b with
   |true =>
    simp +contextual (disch:=omega) [-getElem?_pos,-List.length_eq_zero_iff,-Int.natCast_eq_zero,wrap64,eA (l:=P.lf),eA (l:=P2.lf)];exact cc (i+1) (by simp) (by omega) (by omega)
   |false =>
    have h9:(i:Int)∉B:=fun h=>by
     obtain⟨m,hm,e⟩:=Bv h;exact hb rfl m (by omega) e
    have fW:=hap i (by omega) h9
    simp +contextual (disch:=omega) [-getElem?_pos,-List.length_eq_zero_iff,-Int.natCast_eq_zero,wrap64,eA (l:=P.lf),eA (l:=P2.lf),fW];exact cc (i+1) (by simp) (by omega) (by omega)
 ·trivial
end Go.Proofs.YtmpikpodpgnjhaaGreat
namespace Go.Proofs.YtmpikpodpgnjhaaGreat
set_option linter.all false
open Go.Vm Go.Shelf Go.RowKit Go.Lib
theorem aiF{w:World}{b:Nat}{c:Array Value}{e:TypeId}{d:Array Int}(hb:w.heap[b]?=some (.cells c e (0,0))) :
  (Go.Sort.putRow (Value.int .i64) w b 0 d).heap[b]?=some (.cells (Go.Sort.putCells (Value.int .i64) 0 d c) e (0,0)):=by
 simp[Go.Sort.putRow,Go.Sort.mapBlock,Array.getElem?_modify,hb,Go.Sort.onCells]
theorem aiG{w:World}{b i:Nat}{d:Array Int}(h:i≠b):(Go.Sort.putRow (Value.int .i64) w b 0 d).heap[i]?=w.heap[i]?:=by
 simp[Go.Sort.putRow,Go.Sort.mapBlock,Array.getElem?_modify,Ne.symm h]
theorem HJ{c:Array Value}{d:Array Int}{j:Nat}:(Go.Sort.putCells (Value.int .i64) 0 d c)[j]?=if j<d.size then (c[j]?).map fun _=>.int .i64 d[j]! else c[j]?:=by
 simp only[Go.Sort.putCells,Array.getElem?_mapIdx,Nat.zero_le,true_and,Nat.zero_add,Nat.sub_zero];split
 ·rfl
 ·cases c[j]?<;>rfl
theorem holds_of{w:World}{b:Nat}{c:Array Value}{e:TypeId}{zs:List Int}(hb:w.heap[b]?=some (.cells c e (0,0)))(hc:∀(j:Nat) z,zs[j]?=some z→c[j]?=some (.int .i64 z)) :
  Go.Sort.Holds (Value.int .i64) w b 0 zs.toArray:=by
 intro j hj;have sd:j<zs.length:=by simpa using hj
 have h1:=hc j zs[j] (List.getElem?_eq_getElem sd);constructor
 ·simp only[World.cell?,hb,Nat.zero_add,h1]
  simp[sd]
 ·simp[World.frozen?,hb]
theorem US{w w':World}{b:Nat}{c:Array Value}{e:TypeId}{d:Array Int}{n:Nat}{os:Array Obj}(hb:w.heap[b]?=some (.cells c e (0,0)))(hw:w'=Go.Sort.grow (Go.Sort.putRow (Value.int .i64) (Go.Sort.ahead w n) b 0 d) os) :
  Written w w' b (Go.Sort.putCells (Value.int .i64) 0 d c) e:=by
 subst hw;have bG:b<w.heap.size:=(Array.getElem?_eq_some_iff.1 hb).1;have hs:(Go.Sort.putRow (Value.int .i64) (Go.Sort.ahead w n) b 0 d).heap.size=w.heap.size:=by simp
 refine⟨rfl,rfl,rfl,by simp,fun i hi tQ=>?_,?_⟩
 ·rw[Go.Sort.heap_grow_old _ _ (by rw[hs];exact tQ),aiG hi];rfl
 ·rw[Go.Sort.heap_grow_old _ _ (by rw[hs];exact bG)]
  exact aiF (w:=Go.Sort.ahead w n) hb
def kf:Int→List Int→List Int
 |_,[]=>[]
 |p,a::l=>if a=p then kf a l else a::kf a l
theorem Nc:∀(x:Int) (l:List Int),dedup (x::l)=x::kf x l
 |_,[]=>rfl
 |x,y::r=>by
  have ih:=Nc y r;simp only[dedup,kf];by_cases h:x=y
  ·subst h
   simp[ih]
  ·have h':(x==y)=false:=by simpa using h
   have h2:¬y=x:=fun e=>h e.symm;simp[h',h2,ih]
theorem UT(a:Int):∀(p:Int) (l:List Int),kf p (l++[a])=kf p l++(if a=l.getLastD p then [] else [a])
 |p,[]=>by simp[kf]
 |p,b::l=>by
  have ih:=UT a b l;have e:(b::l).getLastD p=l.getLastD b:=by cases l<;>rfl
  rw[e,List.cons_append,kf,kf,ih];split<;>simp
theorem UU{zs:List Int}:∀{m:Nat},m≤zs.length→compactUpTo zs.toArray m=dedup (zs.take m)
 |0,_=>by simp[compactUpTo,dedup]
 |m+1,h=>by
  have ih:=UU (zs:=zs) (m:=m) (by omega)
  have e:compactUpTo zs.toArray (m+1)=compactUpTo zs.toArray m++(if keeps zs.toArray m then [zs.toArray[m]!] else []):=by
   simp only[compactUpTo,List.range_succ,List.filter_append,List.map_append];congr 1;by_cases hk:keeps zs.toArray m=true<;>simp[hk]
  have hm:zs.toArray[m]! = nth zs m:=by simp[nth,h]
  rw[e,ih,hm,List.take_add_one,bo h];cases m with
  |zero =>
   rw[if_pos (keeps_lt_one _ 0 (by omega))]
   simp[dedup]
  |succ m =>
   have sD:zs.toArray[m]! = nth zs m:=by simp[nth,show m<zs.length by omega]
   cases hz:zs with
   |nil=>rw[hz]at h;simp at h
   |cons x r =>
    rw[hz]at h hm sD;simp only[List.length_cons]at h;have UR:(r.take m).getLastD x=nth (x::r) m:=by
     rw[List.getLastD_eq_getLast?,List.getLast?_take];cases m with
     |zero=>simp[nth]
     |succ m =>
      have:m<r.length:=by omega
      simp[nth,this]
    simp only[List.take_succ_cons,Option.toList_some];rw[Nc,List.cons_append,List.cons_append,Nc,UT,UR];by_cases hk:nth (x::r) (m+1)=nth (x::r) m
    ·rw[keeps_neg (by omega) (by simp only[Nat.add_sub_cancel];rw[hm,sD,hk])]
     simp[hk]
    ·rw[keeps_pos (by simp only[Nat.add_sub_cancel];rw[hm,sD];exact hk)]
     simp[hk]
theorem aiH(zs:List Int):compactUpTo zs.toArray zs.toArray.size=dedup zs:=by
 have:=UU (zs:=zs) (m:=zs.length) (Nat.le_refl _)
 rwa [List.take_length]at this
theorem aiI:pU Tryz.prog 0 229 where
 fn:=⟨_,Tryz.func229,by kernel_rfl,by kernel_rfl⟩
 run:=fun w b cap zs c e hb hc h1 h2 h3=>by
  have h3:zs.length≤4294967296:=h3;have bG:b<w.heap.size:=(Array.getElem?_eq_some_iff.1 hb).1;refine(AnyM.slices_Sort_int Tryz.agG b 0 cap zs w (holds_of hb hc) bG (by omega)).mono fun r w' ⟨hr,n,os,hw⟩=>?_
  have hl:=(xd zs).length_eq;rw[←ZP]at hw;refine⟨hr,_,US hb hw,by simp[Go.Sort.putCells],fun j z hz=>?_,fun j hj=>?_⟩
  ·have Nd:(mH zs)[j]?=some z:=hz
   have hj:=eZ Nd;rw[HJ,if_pos (by simpa using hj)]
   have Ai:j<c.size:=by omega
   simp only[Array.getElem?_eq_getElem Ai,Option.map_some];congr 2;rw[List.getElem?_eq_getElem hj]at Nd;cases Nd;simp[hj]
  ·rw[HJ,if_neg (by simp;omega)]
theorem aiJ:pU Tryz.prog 1 230 where
 fn:=⟨_,Tryz.func230,by kernel_rfl,by kernel_rfl⟩
 run:=fun w b cap zs c e hb hc h1 h2 h3=>by
  have h3:zs.length≤4294967296:=h3;have bG:b<w.heap.size:=(Array.getElem?_eq_some_iff.1 hb).1;refine(AnyE.slices_Compact Tryz.agI (Value.int .i64) (fun _=>rfl) (EqlAt.intD _ _ .i64) (NeqAt.intD _ _ .i64) 0 Tryz.zeroValue3 b 0 cap zs.toArray w (holds_of hb hc) (by simp;omega) (by simpa using h1)).mono fun r w' ⟨hr,n,hw⟩=>?_
  rw[aiH]at hr hw;have hd:=A2 zs;have ru:w'=Go.Sort.grow (Go.Sort.putRow (Value.int .i64) (Go.Sort.ahead w n) b 0 (rU 1 zs).toArray) #[]:=by
   rw[Go.Sort.grow_empty];exact hw
  refine⟨hr,_,US hb ru,by simp[Go.Sort.putCells],fun j z hz=>?_,fun j hj=>?_⟩
  ·have hj:=eZ hz
   have hl:=Kw 1 zs;rw[HJ,if_pos (by simpa using hj)]
   have Ai:j<c.size:=by omega
   simp only[Array.getElem?_eq_getElem Ai,Option.map_some];congr 2;rw[List.getElem?_eq_getElem hj]at hz;cases hz;simp[hj]
  ·have hl:=Kw 1 zs
   rw[HJ,if_neg (by simp;omega)]
theorem aiK:Kx Tryz.prog 146 where
 fn:=⟨_,Tryz.func146,by kernel_rfl,by kernel_rfl⟩
 run:=fun w n h0 hl=>by
  obtain⟨k,rfl⟩:=Int.eq_ofNat_of_zero_le h0;have hl:(k:Int)≤4294967296:=hl;have hi:(Tryz.prog.info? 3).map (fun i=>(i.zero,i.size,i.bytes))=some (some (.int .i64 0),1,8):=by kernel_rfl
  obtain⟨i0,hi,he⟩:=Option.map_eq_some_iff.1 hi;simp only[Prod.mk.injEq]at he;obtain⟨hz,hs,hb⟩:=he;by_cases hk:k=0
  ·subst hk
   exact(Any8.slices_Grow_room Tryz.Tk none 0 0 0 w (by omega) (by omega) (by omega) (by omega)).mono fun r w' h=>.inl h
  ·refine(Any8.slices_Grow_grow Tryz.Tk i0 (.int .i64 0) hi hz (by omega) none 0 0 k [] w (by omega) (by omega) (by rw[hb];omega) (by omega) (by simp) (fun _=>rfl) (fun a h=>by cases h)).mono fun r w' h=>?_
   obtain⟨rfl,rfl⟩:=h;exact .inr ⟨_,_,_,rfl,rfl,rfl,rfl,rfl,by
    have:=grownCap_ge w (0+k) 0 (Tryz.Tj.t 25);simp[Builtin.zeroCells,Value.cells];omega⟩
theorem aiL(f k:Nat)(h:Go.Vm.look f bS=some k):pU Tryz.prog k f:=by
 simp only[bS,Go.Vm.look]at h;by_cases h0:(146==f)=true
 ·rw[h0]at h
  cases h;have:=eq_of_beq h0;subst this;exact aiK
 rw[Bool.eq_false_iff.2 h0]at h;by_cases h1:(229==f)=true
 ·rw[h1]at h
  cases h;have:=eq_of_beq h1;subst this;exact aiI
 ·rw[Bool.eq_false_iff.2 h1]at h
  by_cases h2:(230==f)=true
  ·rw[h2]at h
   cases h;have:=eq_of_beq h2;subst this;exact aiJ
  ·rw[Bool.eq_false_iff.2 h2]at h
   cases h
end Go.Proofs.YtmpikpodpgnjhaaGreat
namespace Go.Proofs.YtmpikpodpgnjhaaGreat
set_option linter.all false
open Go.Vm
open Go.ChangeShapes Go.WideShapes Go.ChangeAt Go.RowKit
theorem Tryz.own:ownKnob Tryz.prog.godebug=none:=by kernel_rfl
theorem Tryz.laidOut:laidOutB Tryz.prog=true:=by kernel_rfl
theorem aiM:oN Tryz.prog (bn F):=YX (CV aiL Tryz.checked.mixed agE)
end Go.Proofs.YtmpikpodpgnjhaaGreat

/- Parts of the proof, joined: Flo3, Sne1, Cdm1, Blc1, Run1, Run2, Sam1, Pth1, Drv1, Drv2, Drv3, Cpt1, Mut1, End0. -/
import Derived.Test.YtmpikpodpgnjhaaGreatDf
import Derived.Test.YtmpikpodpgnjhaaGreatSh
import Derived.Test.YtmpikpodpgnjhaaGreatQV
import Derived.Test.YtmpikpodpgnjhaaGreatVmN
import Derived.Test.YtmpikpodpgnjhaaGreatRows
namespace Go.Proofs.YtmpikpodpgnjhaaGreat
set_option linter.all false
open Go.Vm
attribute [local simp] eU eV eS eT
theorem amp{l:List Int}{k:Nat}(hd:eM l k){c:Cs}(hc:Cm c){s:List Ds}(hs:m8 c s):∃f k',bt F 53 [.bO 0 0,cs c,tY s] [dk l k]=some (fl f,[dk l k'])∧eM l k'∧kB c f∧hB c f 10:=by
 suffices h:∀Q:V→List aW→Prop,(∀f k',eM l k'→kB c f→hB c f 10→Q (fl f) [dk l k'])→jq (bt F) 53 [.bO 0 0,cs c,tY s] [dk l k] Q by
  obtain⟨_,_,h,f,k',rfl,rfl,h1⟩:=h (fun v G=>∃f k',v=fl f∧G=[dk l k']∧eM l k'∧kB c f∧hB c f 10) fun f k' a b d=>⟨f,k',rfl,rfl,a,b,d⟩;exact⟨f,k',h,h1⟩
 intro Q hQ;refine jV rfl rfl ?_;have cv:=oZ hc.mT;have kv:=nP cv.k;have VH:=hc.small;have JO:=hc.n;obtain⟨G1,j8⟩:=apM c VH s (Nw hc.mT hs);have h0:pE c s=.tuple [fl (lD c s),i64 0]:=by unfold pE;rw[show pD c s=0 by unfold pD;rw[if_neg (by have:=hc.mT;omega),if_pos hs]];rfl
 rw[h0]at j8;obtain⟨m,k1,n1,kd,hm⟩:=gU hd 6 (by omega)
 have NR:=(VF hc.mT).2 hs;have Jf:=amo (c:=c) (s:=s);generalize lD c s=f0 at j8 NR Jf;simp (disch:=omega) [wrap64,Ru,j8,n1];refine go_loop (fun y:Fl×Int×Nat=>aoV (.bO 0 0) y.2.1 c.row [i64 0,.aK,.aK] y.1.row [dk l y.2.2])
  (fun y=>kB c y.1∧(0≤y.2.1∧y.2.1≤10)∧eM l y.2.2∧hB c y.1 (10-y.2.1)) (fun y=>y.2.1.toNat) (f0,m,k1) rfl (by simp) ⟨NR,by simp only;omega,kd,Jh cv.k Jf (by simp only;omega)⟩ ?_
 rintro⟨f,x,k⟩ ⟨h1,h2,hd,hh⟩;simp only at h1 h2 hd hh;simp (disch:=omega) [wrap64,aaC];refine b9 (fun h3=>?_) (fun h3=>?_)
 ·obtain⟨p,k2,n2,ik,hp,ha,hb,uF⟩:=ajF hd (c:=c) (by have:=kv.n;omega) (by have:=cv.s;omega)
  have Xj:=cv.s;have mn:p.a.length≤1000∧p.b.length≤1000∧p.c.length≤1000:=by have:=hp;unfold oq at this;omega
  obtain⟨G2,hS⟩:=apU VH (akp cv.k h1) mn;by_cases he:ot c f p=0
  ·rw[sW,if_pos he]at hS
   have AN:=(ako he).fl;have Dc:=Jh cv.k (amn (ako he) (by omega) hh).1 (show 10-x+1≤10-(x-1) by omega)
   generalize wo c f p=f2 at hS AN Dc;generalize zV c f p=pp at hS;simp (disch:=omega) [wrap64,n2,hS];exact cc (f2,x-1,k2) (by simp) ⟨AN,by simp only;omega,ik,Dc⟩ (by simp only;omega)
  ·rw[sW,if_neg he]at hS
   simp (disch:=omega) [wrap64,n2,hS,decide_eq_false he];exact cc (f,x-1,k2) (by simp) ⟨h1,by simp only;omega,ik,Jh cv.k hh (by simp only;omega)⟩ (by simp only;omega)
 ·exact hQ f k hd h1 (Jh cv.k hh (by omega))
theorem amr{l:List Int}{k:Nat}(hd:eM l k):∃c f k',bt F 15 [.bO 0 0] [dk l k]=some (.tuple [cs c,fl f],[dk l k'])∧eM l k'∧Cm c∧kB c f∧hB c f 10:=by
 suffices h:∀Q:V→List aW→Prop,(∀c f k',eM l k'→Cm c→kB c f→hB c f 10→Q (.tuple [cs c,fl f]) [dk l k'])→jq (bt F) 15 [.bO 0 0] [dk l k] Q by
  obtain⟨_,_,h,c,f,k',rfl,rfl,h1⟩:=h (fun v G=>∃c f k',v=.tuple [cs c,fl f]∧G=[dk l k']∧eM l k'∧Cm c∧kB c f∧hB c f 10) fun c f k' a b d e=>⟨c,f,k',rfl,rfl,a,b,d,e⟩;exact⟨c,f,k',h,h1⟩
 intro Q hQ;refine jV rfl rfl ?_;obtain⟨c,s,k1,n1,kd,hc,hs⟩:=apN hd;obtain⟨f,k2,n2,ik,hf,hb⟩:=amp kd hc hs;simp[wrap64,Re,n1,n2];exact hQ c f k2 ik hc hf hb
abbrev EH:Rc:=⟨[0,1],1⟩
abbrev gz:Cs:=⟨⟨2,[⟨0,1,EH⟩]⟩,[]⟩
theorem EI:e8 EH=0:=by
 unfold e8;rw[if_neg (by decide),if_neg (by decide),if_pos,if_pos (by decide)]
 intro i hi;have:i=0∨i=1:=by simp at hi;omega
 rcases this with rfl|rfl<;>decide
theorem akv:jJ gz.r=0:=by
 unfold jJ;rw[if_neg (by decide)]
 show(if lE gz.r 0=0 then (0:Int) else lE gz.r 0)=0
 have:lE gz.r 0=0:=by
  unfold lE;simp only;rw[if_pos (by decide),if_neg (by decide),if_neg (by decide)]
  exact EI
 rw[if_pos this]
theorem H9:gu gz=0:=by
 unfold gu;rw[if_neg (fun g=>g akv),if_neg (by decide),if_neg (by decide)]
 rfl
theorem Ia:oo gz.r:=⟨by decide,fun i hi=>by
 have:i=0:=by simp at hi;omega
 subst this
 decide⟩
theorem NL{t:Int}{p:List Int}(h:p.length≤10):ua ⟨t,[],[p]⟩:=fun i=>by
 cases i with
 |zero=>show p.length≤_;omega
 |succ i=>exact Nat.zero_le _
theorem Ib:∀p:List Int,p=[]∨p=[7]→iv EH p:=fun p h=>by
 rcases h with rfl|rfl
 ·exact⟨by decide,by decide,fun i hi=>by simp at hi⟩
 ·refine⟨by decide,by decide,fun i hi=>?_⟩
  have:i=0:=by simp at hi;omega
  subst this;decide
theorem akw:gD EH [] 7=0:=by
 unfold gD;rw[if_neg (fun g=>g EI),if_pos (Ib _ (.inl rfl)),if_pos];refine⟨by decide,fun i hi=>?_⟩
 have:i=0∨i=1:=by simp at hi;omega
 rcases this with rfl|rfl<;>decide
theorem akx:gD EH [7] 0=0:=by
 unfold gD;rw[if_neg (fun g=>g EI),if_pos (Ib _ (.inr rfl)),if_pos];refine⟨by decide,fun i hi=>?_⟩
 have:i=0∨i=1:=by simp at hi;omega
 rcases this with rfl|rfl<;>decide
abbrev wy:Sp:=⟨[7,0],[],[]⟩
abbrev wz:Sp:=⟨[0,0],[],[]⟩
abbrev uX:Fl:=⟨0,[],[[]]⟩
abbrev uc:Fl:=⟨1,[],[[7]]⟩
theorem aky:kB gz uX:=⟨by decide,⟨rfl,by simp⟩,rfl,fun i hi=>by
 have:i=0:=by simp at hi;omega
 subst this;exact⟨EI,Ib _ (.inl rfl)⟩⟩
theorem V9:kB gz uc:=⟨by decide,⟨rfl,by simp⟩,rfl,fun i hi=>by
 have:i=0:=by simp at hi;omega
 subst this;exact⟨EI,Ib _ (.inr rfl)⟩⟩
theorem xD(k:Int):me gz.s k=none:=rfl
theorem Ic:lu gz.r.l ((0:Nat):Int)=some 0:=rfl
theorem Ie:lu gz.r.l ((1:Nat):Int)=none:=rfl
theorem Wa:cB gz wy uX 1=⟨[7,0],[],[[7]],[],[7],[0]⟩:=by
 show vS gz wy ⟨[7,0],[],[[]],[],[],[]⟩ 0=_;unfold vS vL vD fG;rw[xD,Ic];rfl
theorem Wb:cB gz wy uX 2=⟨[7,0],[],[[7]],[],[7,0],[0]⟩:=by
 show vS gz wy (cB gz wy uX 1) 1=_;rw[Wa];unfold vS vL vD fG;rw[xD,Ie];rfl
theorem Wc:cB gz wz uc 1=⟨[0,7],[],[[]],[],[0],[7]⟩:=by
 show vS gz wz ⟨[0,0],[],[[7]],[],[],[]⟩ 0=_;unfold vS vL vD fG;rw[xD,Ic];rfl
theorem Wd:cB gz wz uc 2=⟨[0,7],[],[[]],[],[0,7],[7]⟩:=by
 show vS gz wz (cB gz wz uc 1) 1=_;rw[Wc];unfold vS vL vD fG;rw[xD,Ie];rfl
theorem We{l:List Int}(h:∀x∈l,x=0∨x=7):fN l 1073741824:=fun i hi=>by
 have:=h _ (rZ hi);omega
theorem akz:ot gz uX wy=0:=by
 unfold ot;have hr:o0 gz uX=0:=by unfold o0;rw[if_neg (fun g=>g H9),if_pos aky]
 rw[if_neg (fun g=>g hr)];unfold jK;rw[if_pos (by decide),if_pos (We (by simp)),if_neg (by decide)]
 refine rC fun k _ hk=>?_;have:k=0∨k=1:=by have:gz.r.n.toNat=2:=rfl;omega
 rcases this with rfl|rfl
 ·unfold vE lO nQ fG
  rw[xD,Ic];exact akw
 ·unfold vE lO nQ fG
  rw[Wa,xD,Ie];rfl
theorem akA:ot gz uc wz=0:=by
 unfold ot;have hr:o0 gz uc=0:=by unfold o0;rw[if_neg (fun g=>g H9),if_pos V9]
 rw[if_neg (fun g=>g hr)];unfold jK;rw[if_pos (by decide),if_pos (We (by simp)),if_neg (by decide)]
 refine rC fun k _ hk=>?_;have:k=0∨k=1:=by have:gz.r.n.toNat=2:=rfl;omega
 rcases this with rfl|rfl
 ·unfold vE lO nQ fG
  rw[xD,Ic];exact akx
 ·unfold vE lO nQ fG
  rw[Wc,xD,Ie];rfl
abbrev cw:V:=.agg [i64 2,.slice none 4 [[i64 0,i64 1,.slice none 1 [[i64 0],[i64 1]],i64 1]],.slice none 10 []]
theorem NM(G:List aW):bt F 12 [] G=some (.bool true,G) :=
 cg rfl rfl (by
  obtain⟨G1,h1⟩:=ajB gz Ia [];obtain⟨t2,G2,h2⟩:=NF Ia (f:=uX) (NL (by decide)) wy
  obtain⟨t3,G3,h3⟩:=NF Ia (f:=uc) (NL (by decide)) wz
  have h4:=ajo gz Ia uc (NL (by decide))
  rw[decide_eq_true ⟨H9,V9⟩]at h4;rw[show pE gz []=.tuple [fl uX,i64 0] by unfold pE;rw[show pD gz []=0 by unfold pD;rw[if_neg (fun g=>g H9),if_pos ⟨rfl,by simp⟩]];rfl]at h1
  rw[sW,if_pos akz,show wo gz uX wy=uc by unfold wo;rw[show gz.r.n.toNat=2 from rfl,Wb];rfl,show zV gz uX wy=⟨[],[7,0],[0]⟩ by unfold zV;rw[show gz.r.n.toNat=2 from rfl,Wb]]at h2
  rw[sW,if_pos akA,show wo gz uc wz=⟨2,[],[[]]⟩ by unfold wo;rw[show gz.r.n.toNat=2 from rfl,Wd];rfl,show zV gz uc wz=⟨[],[0,7],[7]⟩ by unfold zV;rw[show gz.r.n.toNat=2 from rfl,Wd]]at h3
  replace h1:bt F 31 [cw,.slice none 4 []] []=some (.tuple [.agg [i64 0,.slice none 4 [],.slice none 1 [[.slice none 1 []]]],i64 0],G1):=h1;replace h2:bt F 17 [cw,.agg [i64 0,.slice none 4 [],.slice none 1 [[.slice none 1 []]]],.agg [.slice none 1 [[i64 7],[i64 0]],.slice none 1 [],.slice none 1 []]] [] =
   some (.tuple [.agg [i64 1,.slice none 4 [],.slice none 1 [[.slice none 1 [[i64 7]]]]],.agg [.slice none 7 [],.slice none 1 [[i64 7],[i64 0]],.slice none 1 [[i64 0]]],i64 0],G2):=h2
  replace h3:bt F 17 [cw,.agg [i64 1,.slice none 4 [],.slice none 1 [[.slice none 1 [[i64 7]]]]],.agg [.slice none 1 [[i64 0],[i64 0]],.slice none 1 [],.slice none 1 []]] [] =
   some (.tuple [.agg [i64 2,.slice none 4 [],.slice none 1 [[.slice none 1 []]]],.agg [.slice none 7 [],.slice none 1 [[i64 0],[i64 7]],.slice none 1 [[i64 7]]],i64 0],G3):=h3
  replace h4:∀G,bt F 28 [cw,.agg [i64 1,.slice none 4 [],.slice none 1 [[.slice none 1 [[i64 7]]]]]] G=some (.bool true,G):=h4;simp[wrap64,KA,h1,h2,h3,h4])
end Go.Proofs.YtmpikpodpgnjhaaGreat
namespace Go.Proofs.YtmpikpodpgnjhaaGreat
set_option linter.all false
open Go.Vm
noncomputable abbrev fin(c:Cs)(p:Sp)(f:Fl):Co:=cB c p f c.r.n.toNat
theorem akB{c:Cs}{p:Sp}{f:Fl}(h:Pa c f p){k:Nat}(hk:k≤c.r.n.toNat){m:Nat}(hm:m<(cB c p f k).cm.length):nth (fin c p f).cm m=nth (cB c p f k).cm m:=by
 have hc:=oZ h.c0;have hl:m<(fin c p f).cm.length:=by
  have e:=(NG hc p f).2;have:=(zW hc p f k).l.1;rw[show(fin c p f).cm.length=c.r.l.length from e];omega
 obtain⟨a,_,a2,a3⟩:=(BR h (Nat.le_refl _)).link m hl;obtain⟨b,_,b2,b3⟩:=(BR h hk).link m hm;obtain rfl:a=b:=by omega
 rw[a3.o,b3.o]
theorem Wf{c:Cs}{l l':List Int}{j:Int}:∀{m:Nat},(∀i,i<m→nth l i=nth l' i)→jL c l j m=jL c l' j m
 |0,_=>rfl
 |m+1,h=>by
  simp only[jL];rw[Wf fun i hi=>h i (by omega),h m (by omega)]
theorem Wg{c:Cs}{l:List Int}{j:Int}{m:Nat}:∀{n:Nat},(∀i,m≤i→i<m+n→(nth c.r.l i).t≠j)→jL c l j (m+n)=jL c l j m
 |0,_=>rfl
 |n+1,h=>by
  rw[show m+(n+1)=(m+n)+1 by omega]
  simp only[jL];rw[Wg fun i a b=>h i a (by omega),if_neg (h (m+n) (by omega) (by omega)),Int.add_zero]
theorem Wh{c:Cs}{l:List Int}{j:Int}:∀{m:Nat},(∀i,i<m→0≤nth l i∧nth l i≤1125899906842624)→0≤jL c l j m∧jL c l j m≤1125899906842624*m
 |0,_=>by simp[jL]
 |m+1,h=>by
  have:=Wh (c:=c) (j:=j) fun i hi=>h i (Nat.lt_succ_of_lt hi);have:=h m (by omega)
  simp only[jL];split<;>omega
theorem akC{c:Cs}{p:Sp}{f:Fl}(h:Pa c f p){k:Nat}(hk:k<c.r.n.toNat):nth (cB c p f k).arr k=nth p.a k+jL c (fin c p f).cm k c.r.l.length:=by
 have hc:=oZ h.c0;have hv:=h.vc (k:=k) (by omega)
 have ho:=(zW hc p f k).l;rw[(BR h (by omega)).arr k (by have:=hv.xw;omega),Wf (l:=(cB c p f k).cm) (l':=(fin c p f).cm) fun i hi=>(akB h (by omega) hi).symm]
 obtain⟨d,hd⟩:∃d,c.r.l.length=(cB c p f k).cm.length+d:=⟨c.r.l.length-(cB c p f k).cm.length,by have:=ho.1;omega⟩
 rw[hd,Wg fun i a b=>?_];have h1:=ho.2.2 i a (by omega)
 have h2:=((nP hc.k).link (i:=i) (by omega)).1
 have h1:(k:Int)≤(nth c.r.l i).f:=h1;omega
end Go.Proofs.YtmpikpodpgnjhaaGreat
namespace Go.Proofs.YtmpikpodpgnjhaaGreat
set_option linter.all false
open Go.Vm
attribute [local simp] eU eV eS eT
theorem ash{l:List Int}{m:Int}:(l.any fun x => !decide (0≤x∧x≤m)) = !decide (fN l m):=by
 by_cases h:fN l m
 ·rw[decide_eq_true h]
  refine List.any_eq_false.2 fun x hx=>?_;have:=aj5.1 h x hx;simp;exact this
 ·rw[decide_eq_false h]
  cases hb:l.any fun x => !decide (0≤x∧x≤m) with
  |true=>rfl
  |false =>
   refine absurd (fun i hi=>?_) h;have:=List.any_eq_false.1 hb (nth l i) (rZ hi);simpa using this
theorem apA{a b:List Int}(h:a.length=b.length)(e:∀i,i<a.length→nth a i=nth b i):a=b:=by
 refine List.ext_getElem h fun i h1 h2=>?_;have:=e i h1;simpa [nth,h1,h2] using this
theorem asi(a b:List Int)(ha:a.length≤17592186044416)(G:List aW):bt F 84 [ints a,ints b] G=some (.bool (decide (a=b)),G) :=
 cg rfl rfl (by
  generalize hW:decide (a=b)=W;by_cases h1:a.length=b.length
  case neg =>
   have nL:¬ (a.length:Int)=b.length:=by omega
   simp (disch:=omega) [-getElem?_pos,wrap64,aiw,nL];rw[←hW,decide_eq_false fun h=>h1 (by rw[h])]
  have nL:(a.length:Int)=b.length:=by omega
  simp (disch:=omega) [-getElem?_pos,wrap64,aiw,nL];refine go_loop (fun i:Nat=>aqU (ints a) (ints b) b.length i G) (fun i=>i≤a.length∧∀j,j<i→nth a j=nth b j) (fun i=>a.length-i) 0 rfl (by simp) (by simp) ?_
  rintro i ⟨hi,hj⟩;simp (disch:=omega) [-getElem?_pos,wrap64,ao2];refine b9 (fun h5=>?_) (fun h5=>?_)
  ·have h5:i<b.length:=by omega
   have h6:i<a.length:=by omega
   by_cases h7:nth a i=nth b i
   ·simp (disch:=omega) [-getElem?_pos,wrap64,eA (l:=a),eA (l:=b),h7]
    exact cc (i+1) (by simp) ⟨by omega,fun j EZ=>by
     by_cases g:j=i
     ·rw[g];exact h7
     ·exact hj j (by omega)⟩ (by omega)
   ·simp (disch:=omega) [-getElem?_pos,wrap64,eA (l:=a),eA (l:=b),h7]
    rw[←hW,decide_eq_false fun h=>h7 (by rw[h])]
  ·rw[←hW,decide_eq_true (apA h1 fun j EZ=>hj j (by omega))])
theorem aui(a b:List Int)(ha:a.length≤17592186044416)(G:List aW):bt F 30 [ints a,ints b] G=some (.bool (decide (a=b)),G) :=
 cg rfl rfl (by
  generalize hW:decide (a=b)=W;by_cases h1:a.length=b.length
  case neg =>
   have nL:¬ (a.length:Int)=b.length:=by omega
   simp (disch:=omega) [-getElem?_pos,wrap64,ai2,nL];rw[←hW,decide_eq_false fun h=>h1 (by rw[h])]
  have nL:(a.length:Int)=b.length:=by omega
  simp (disch:=omega) [-getElem?_pos,wrap64,ai2,nL];refine go_loop (fun i:Nat=>ar4 (ints a) (ints b) b.length i G) (fun i=>i≤a.length∧∀j,j<i→nth a j=nth b j) (fun i=>a.length-i) 0 rfl (by simp) (by simp) ?_
  rintro i ⟨hi,hj⟩;simp (disch:=omega) [-getElem?_pos,wrap64,aq3];refine b9 (fun h5=>?_) (fun h5=>?_)
  ·have h5:i<b.length:=by omega
   have h6:i<a.length:=by omega
   by_cases h7:nth a i=nth b i
   ·simp (disch:=omega) [-getElem?_pos,wrap64,eA (l:=a),eA (l:=b),h7]
    exact cc (i+1) (by simp) ⟨by omega,fun j EZ=>by
     by_cases g:j=i
     ·rw[g];exact h7
     ·exact hj j (by omega)⟩ (by omega)
   ·simp (disch:=omega) [-getElem?_pos,wrap64,eA (l:=a),eA (l:=b),h7]
    rw[←hW,decide_eq_false fun h=>h7 (by rw[h])]
  ·rw[←hW,decide_eq_true (apA h1 fun j EZ=>hj j (by omega))])
theorem arG(a b:List Int)(ha:a.length≤17592186044416)(G:List aW):bt F 98 [ints a,ints b] G=some (.bool (decide (a=b)),G) :=
 cg rfl rfl (by
  generalize hW:decide (a=b)=W;by_cases h1:a.length=b.length
  case neg =>
   have nL:¬ (a.length:Int)=b.length:=by omega
   simp (disch:=omega) [-getElem?_pos,wrap64,ajl,nL];rw[←hW,decide_eq_false fun h=>h1 (by rw[h])]
  have nL:(a.length:Int)=b.length:=by omega
  simp (disch:=omega) [-getElem?_pos,wrap64,ajl,nL];refine go_loop (fun i:Nat=>asR (ints a) (ints b) b.length i G) (fun i=>i≤a.length∧∀j,j<i→nth a j=nth b j) (fun i=>a.length-i) 0 rfl (by simp) (by simp) ?_
  rintro i ⟨hi,hj⟩;simp (disch:=omega) [-getElem?_pos,wrap64,aro];refine b9 (fun h5=>?_) (fun h5=>?_)
  ·have h5:i<b.length:=by omega
   have h6:i<a.length:=by omega
   by_cases h7:nth a i=nth b i
   ·simp (disch:=omega) [-getElem?_pos,wrap64,eA (l:=a),eA (l:=b),h7]
    exact cc (i+1) (by simp) ⟨by omega,fun j EZ=>by
     by_cases g:j=i
     ·rw[g];exact h7
     ·exact hj j (by omega)⟩ (by omega)
   ·simp (disch:=omega) [-getElem?_pos,wrap64,eA (l:=a),eA (l:=b),h7]
    rw[←hW,decide_eq_false fun h=>h7 (by rw[h])]
  ·rw[←hW,decide_eq_true (apA h1 fun j EZ=>hj j (by omega))])
def Kz(c:Cs)(p:Sp)(x:Ps)(j:Nat):Int:=nth p.a j+jL c x.cm j c.r.l.length
def Hz(c:Cs)(f g:Fl)(x:Ps)(i:Nat):Prop :=
 sm (nth g.w i) (nth g.w i).length-sm (nth f.w i) (nth f.w i).length=(nth c.r.l i).r.den*(nth x.lf (nth c.r.l i).f.toNat-nth x.cm i)
noncomputable def C0(c:Cs)(f g:Fl)(p:Sp)(x:Ps)(i:Nat):Prop:=aiT (nth f.d i) (nth g.d i) (nth x.re i)∧(nth x.re i).inf=Kz c p x (nth c.s i).n.toNat
noncomputable def MW(c:Cs)(p:Sp)(x:Ps)(j:Nat):Int:=match me c.s j with
 |none=>Kz c p x j
 |some i=>rL (nth x.re i)
structure blL(c:Cs)(f g:Fl)(p:Sp)(x:Ps):Prop where
 c0:gu c=0
 f0:kB c f
 g0:kB c g
 p0:oq c p
 re:x.re.length=c.s.length
 lf:(x.lf.length:Int)=c.r.n
 cm:x.cm.length=c.r.l.length
structure HL(c:Cs)(f g:Fl)(p:Sp)(x:Ps):Prop where
 l:blL c f g p x
 all:fN (p.a++x.lf++x.cm) 274877906944
 lk:∀i,i<c.r.l.length→Hz c f g x i
 si:∀i,i<c.s.length→C0 c f g p x i
 le:∀j,j<c.r.n.toNat→nth x.lf j=MW c p x j
noncomputable instance {c:Cs} {f g:Fl} {p:Sp} {x:Ps}:Decidable (HL c f g p x):=Classical.propDecidable _
structure Bn(p:Sp)(x:Ps):Prop where
 a:∀j,j<p.a.length→0≤nth p.a j∧nth p.a j≤274877906944
 lf:∀j,j<x.lf.length→0≤nth x.lf j∧nth x.lf j≤274877906944
 cm:∀j,j<x.cm.length→0≤nth x.cm j∧nth x.cm j≤274877906944
theorem apB{p:Sp}{x:Ps}(h:fN (p.a++x.lf++x.cm) 274877906944):Bn p x:=by
 rw[AZ,AZ]at h;exact⟨h.1.1,h.1.2,h.2⟩
theorem Bn.ts{c:Cs}{p:Sp}{x:Ps}(h:Bn p x){j:Int}{m:Nat}(hm:m≤x.cm.length):0≤jL c x.cm j m∧jL c x.cm j m≤1125899906842624*m :=
 Wh fun i hi=>by have:=h.cm i (by omega);omega
theorem agV{c:Cs}{l:List (List Int)}(h:BN c l){i:Nat}(hi:i<c.r.l.length):(nth l i).length≤40∧fN (nth l i) 2251799813685248:=by
 have a:=h.2 i hi;have:=(wa a.1).len;exact⟨by have:=a.2.1;omega,a.2.2.2⟩
theorem ai3{c:Cs}{l:List (List Int)}(h:BN c l){i:Nat}(hi:i<c.r.l.length):0≤sm (nth l i) (nth l i).length∧sm (nth l i) (nth l i).length≤90071992547409920:=by
 obtain⟨a,b⟩:=agV h hi;have:=BL (i:=(nth l i).length) b;omega
theorem den_mul{D a b:Int}(hD:1≤D∧D≤240000)(ha:0≤a∧a≤274877906944)(hb:0≤b∧b≤274877906944):-65970697666560000≤D*(a-b)∧D*(a-b)≤65970697666560000:=by
 have h1:0≤D*a:=Int.mul_nonneg (by omega) ha.1
 have h2:0≤D*b:=Int.mul_nonneg (by omega) hb.1
 have h3:D*a≤240000*274877906944:=Int.mul_le_mul hD.2 ha.2 ha.1 (by omega)
 have h4:D*b≤240000*274877906944:=Int.mul_le_mul hD.2 hb.2 hb.1 (by omega)
 rw[Int.mul_sub];omega
instance:Inhabited Sp:=⟨⟨[],[],[]⟩⟩
abbrev rH(l:List Sp):V:=.slice none 3 (l.map Sp.row)
noncomputable def hY(c:Cs)(f:Fl)(l:List Sp):Nat→Fl
 |0=>f
 |k+1=>wo c (hY c f l k) (nth l k)
noncomputable def E1(c:Cs)(f:Fl)(l:List Sp)(k:Nat):Ps:=zV c (hY c f l k) (nth l k)
noncomputable def oE(c:Cs)(f:Fl)(l:List Sp)(k:Nat):List Ps:=(List.range k).map (E1 c f l)
theorem auk{c:Cs}{f:Fl}{l:List Sp}{k:Nat}:oE c f l (k+1)=oE c f l k++[E1 c f l k]:=by simp[oE,List.range_succ]
@[simp] theorem aul{c:Cs}{f:Fl}{l:List Sp}{k:Nat}:(oE c f l k).length=k:=by simp[oE]
noncomputable def sn(c:Cs)(f:Fl)(l:List Sp):Int:=if o0 c f≠0 then o0 c f else if 400<l.length then 10 else ed (fun k=>jK c (hY c f l k) (nth l k)) l.length 0
abbrev crX(t:Option Nat)(e:Int):V:=.tuple [.agg [i64 0,.slice t 4 [],.slice t 1 []],.slice t 3 [],i64 e]
noncomputable def Ay(t:Option Nat)(c:Cs)(f:Fl)(l:List Sp):V:=if sn c f l=0 then .tuple [fl (hY c f l l.length),.slice t 3 ((oE c f l l.length).map Ps.row),i64 0] else crX t (sn c f l)
theorem aqf{c:Cs}{f:Fl}{p:Sp}(hc:gu c=0)(hf:kB c f):ot c f p=jK c f p:=by
 unfold ot o0;rw[if_neg (by omega:¬ (gu c≠0)),if_pos hf]
 rfl
theorem aqg{c:Cs}{f:Fl}{l:List Sp}(hc:gu c=0)(hf:kB c f):∀k,(∀j,j<k→jK c (hY c f l j) (nth l j)=0)→kB c (hY c f l k)
 |0,_=>hf
 |k+1,h=>by
  have ih:=aqg hc hf k fun j hj=>h j (by omega)
  exact(ako (by rw[aqf hc ih];exact h k (by omega))).fl
set_option maxRecDepth 100000 in
set_option maxHeartbeats 1000000 in
theorem aqh{c:Cs}(hr:oo c.r){f:Fl}(hf:ua f)(l:List Sp)(hl:l.length≤1000):∃G',bt F 35 [cs c,fl f,rH l] []=some (Ay (some 0) c f l,G'):=by
 suffices h:∀Q:V→Prop,Q (Ay (some 0) c f l)→jq (bt F) 35 [cs c,fl f,rH l] [] fun v _=>Q v by
  obtain⟨_,G',h,rfl⟩:=h (fun v=>v=Ay (some 0) c f l) rfl;exact⟨G',h⟩
 intro Q hQ;refine jV rfl rfl ?_;have hd:=ajp c hr f hf;by_cases hz:o0 c f=0
 case neg =>
  rw[Ay,if_neg (by unfold sn;rw[if_pos hz];exact hz),show sn c f l=o0 c f by unfold sn;rw[if_pos hz]]at hQ
  simp (disch:=omega) [-getElem?_pos,wrap64,abZ,hd,hz];exact hQ
 obtain⟨z1,z2⟩:=VT hz;have cv:=oZ z1;have kv:=nP cv.k;by_cases h4:400<l.length
 case pos =>
  have e:sn c f l=10:=by unfold sn;rw[if_neg (by omega),if_pos h4]
  have h4':(400:Int)<l.length:=by omega
  rw[Ay,if_neg (by omega),e]at hQ
  simp (disch:=omega) [-getElem?_pos,wrap64,abZ,hd,hz,h4'];exact hQ
 have h4':¬ (400:Int)<l.length:=by omega
 have j8:=Vx f.d (Nw z1 z2.2.1);have hwv:=ajr f.w (VR cv.k z2.2.2);have e:sn c f l=ed (fun k=>jK c (hY c f l k) (nth l k)) l.length 0:=by unfold sn;rw[if_neg (by omega),if_neg h4]
 simp (disch:=omega) [-getElem?_pos,wrap64,abZ,hd,hz,h4',j8,hwv,zR,HU];refine go_loop (fun k:Nat=>ar9 (.slice (some 1058) 3 ((oE c f l k).map Ps.row)) (rH l) l.length k c.row (hY c f l k).row [z0,.aK,.aK] k [.cells [],.cells []])
  (fun k=>k≤l.length∧ed (fun k=>jK c (hY c f l k) (nth l k)) (l.length-k) k=sn c f l∧∀j,j<k→jK c (hY c f l j) (nth l j)=0) (fun k=>l.length-k) 0 rfl (by simp (disch:=omega) [zR,HU,hY,oE]) ⟨by omega,e.symm,by omega⟩ ?_
 rintro k ⟨hk,hE,hj⟩;have hfk:=aqg z1 z2 k hj;simp (disch:=omega) [-getElem?_pos,wrap64,aq5];refine b9 (fun h5=>?_) (fun h5=>?_)
 ·have h5:k<l.length:=by omega
  rw[l7 h5]at hE;obtain⟨G1,hP⟩:=ajW hr z1 hfk (nth l k);by_cases h6:jK c (hY c f l k) (nth l k)=0
  ·rw[BU,if_pos h6]at hP
   simp only[if_pos h6]at hE;simp (disch:=omega) [-getElem?_pos,wrap64,bo (l:=l),hP];refine cc (k+1) (by simp[auk,hY,E1]) ⟨by omega,hE,fun j EZ=>?_⟩ (by omega)
   by_cases g:j=k
   ·rw[g];exact h6
   ·exact hj j (by omega)
  ·rw[BU,if_neg h6]at hP
   simp only[if_neg h6]at hE;rw[Ay,if_neg (by omega),← hE]at hQ
   simp (disch:=omega) [-getElem?_pos,wrap64,bo (l:=l),hP,h6];exact hQ
 ·obtain rfl:k=l.length:=by omega
  rw[Nat.sub_self]at hE;have hE:0=sn c f l:=hE;rw[Ay,if_pos hE.symm]at hQ;exact hQ
theorem aqI{α:Type}[Inhabited α]{l:List α}{k i:Nat}:nth (l.drop k) i=nth l (k+i):=by
 simp[nth,List.getD]
theorem akL{c:Cs}{f:Fl}{l:List Sp}{k:Nat}:∀{i:Nat},i≤k→hY c f (l.take k) i=hY c f l i
 |0,_=>rfl
 |i+1,h=>by simp only[hY];rw[akL (by omega),BB (by omega)]
theorem akP{c:Cs}{f:Fl}{l:List Sp}{k:Nat}:∀i:Nat,hY c (hY c f l k) (l.drop k) i=hY c f l (k+i)
 |0=>rfl
 |i+1=>by
  show wo c (hY c (hY c f l k) (l.drop k) i) (nth (l.drop k) i)=wo c (hY c f l (k+i)) (nth l (k+i));rw[akP i,aqI]
theorem auo{c:Cs}{f:Fl}{l:List Sp}{k m:Nat}:oE c f (l.take k) k++oE c (hY c f l k) (l.drop k) m=oE c f l (k+m):=by
 unfold oE;rw[List.range_add,List.map_append,List.map_map];congr 1
 ·refine List.map_congr_left fun i hi=>?_
  have hi:=List.mem_range.1 hi;simp only[E1];rw[akL (by omega),BB hi]
 ·refine List.map_congr_left fun i _=>?_
  simp only[E1,Function.comp];rw[akP,aqI]
structure Ra(c:Cs)(f:Fl)(l:List Sp):Prop where
 c0:gu c=0
 f0:kB c f
 len:l.length≤400
 v:∀k,k<l.length→jK c (hY c f l k) (nth l k)=0
theorem aup{c:Cs}{f:Fl}{l:List Sp}(h:sn c f l=0):Ra c f l:=by
 unfold sn at h;split at h
 ·rename_i h1;exact absurd h h1
 ·rename_i h1
  obtain⟨a,b⟩:=VT (Decidable.of_not_not h1);split at h
  ·cases h
  ·exact⟨a,b,by omega,fun k hk=>sE h k (by omega) (by omega)⟩
theorem Ra.e{c:Cs}{f:Fl}{l:List Sp}(h:Ra c f l):sn c f l=0:=by
 have hr:o0 c f=0:=by unfold o0;rw[if_neg (by have:=h.c0;omega),if_pos h.f0]
 have:=h.len;unfold sn;rw[if_neg (by omega),if_neg (by omega)]
 exact rC fun j _ hj=>h.v j (by omega)
theorem Ra.at_{c:Cs}{f:Fl}{l:List Sp}(h:Ra c f l){k:Nat}(hk:k≤l.length):kB c (hY c f l k):=aqg h.c0 h.f0 k fun j hj=>h.v j (by omega)
theorem Ra.pa{c:Cs}{f:Fl}{l:List Sp}(h:Ra c f l){k:Nat}(hk:k<l.length):Pa c (hY c f l k) (nth l k):=ako (by rw[aqf h.c0 (h.at_ (by omega))];exact h.v k hk)
theorem Ra.take{c:Cs}{f:Fl}{l:List Sp}(h:Ra c f l){k:Nat}(hk:k≤l.length):Ra c f (l.take k) :=
 ⟨h.c0,h.f0,by have:=h.len;simp;omega,fun j hj=>by
  simp at hj;rw[akL (by omega),BB (by omega)]
  exact h.v j (by omega)⟩
theorem Ra.drop{c:Cs}{f:Fl}{l:List Sp}(h:Ra c f l){k:Nat}(hk:k≤l.length):Ra c (hY c f l k) (l.drop k) :=
 ⟨h.c0,h.at_ hk,by have:=h.len;simp;omega,fun j hj=>by
  simp at hj;rw[akP,aqI];exact h.v (k+j) (by omega)⟩
theorem Ra.hB{c:Cs}{f:Fl}{l:List Sp}(h:Ra c f l){M:Int}(hM:0≤M)(hb:hB c f M):∀{k:Nat},k≤l.length→hB c (hY c f l k) (M+k)
 |0,_=>by simpa [hY] using hb
 |k+1,hk=>by
  have:=(amn (h.pa (k:=k) (by omega)) (by omega) (h.hB hM hb (k:=k) (by omega))).1
  rw[show M+((k+1:Nat):Int)=M+k+1 by omega]
  exact this
def Sw(c:Cs)(p:Sp):Prop:=oq c p∧fN p.a 30∧fN p.b 30∧fN p.c 30
abbrev aqJ(l:List Sp):V:=.slice (some 0) 3 (l.map Sp.row)
theorem auq{l:List Int}{k:Nat}(hd:eM l k){c:Cs}(hn:1≤c.r.n∧c.r.n≤40)(hs:c.s.length≤10){n:Nat}(hm:n≤1000) :
  ∃q k',bt F 34 [.bO 0 0,cs c,i64 n] [dk l k]=some (aqJ q,[dk l k'])∧eM l k'∧q.length=n∧∀i,i<n→Sw c (nth q i):=by
 suffices h:∀Q:V→List aW→Prop,(∀q k',eM l k'→q.length=n→(∀i,i<n→Sw c (nth q i))→Q (aqJ q) [dk l k'])→jq (bt F) 34 [.bO 0 0,cs c,i64 n] [dk l k] Q by
  obtain⟨_,_,h,q,k',rfl,rfl,h1⟩:=h (fun v G=>∃q k',v=aqJ q∧G=[dk l k']∧eM l k'∧q.length=n∧∀i,i<n→Sw c (nth q i)) fun q k' a b d=>⟨q,k',rfl,rfl,a,b,d⟩;exact⟨q,k',h,h1⟩
 intro Q hQ;refine jV rfl rfl ?_;simp (disch:=omega) [wrap64,ao7];refine go_loop (fun y:List Sp×Nat=>ar6 (.bO 0 0) (.slice (some 1016) 3 (y.1.map Sp.row)) n y.1.length c.row y.1.length [dk l y.2]) (fun y=>y.1.length≤n∧eM l y.2∧∀i,i<y.1.length→Sw c (nth y.1 i)) (fun y=>n-y.1.length) ([],k) rfl (by simp) ⟨by simp,hd,fun i hi=>absurd hi (by simp)⟩ ?_
 rintro⟨q,k⟩ ⟨h1,hd,hq⟩;simp only at h1 hd hq;simp (disch:=omega) [wrap64,aq4];refine b9 (fun h5=>?_) (fun h5=>?_)
 ·obtain⟨p,k2,n2,ik,hp⟩:=ajF hd (c:=c) hn hs
  simp (disch:=omega) [wrap64,n2];refine cc (q++[p],k2) (by simp) ⟨by simp;omega,ik,fun i hi=>?_⟩ (by simp;omega)
  simp only[List.length_append,List.length_singleton]at hi;rw[iS];by_cases g:i<q.length
  ·rw[if_pos g];exact hq i g
  ·rw[if_neg g,if_pos (by omega)];exact hp
 ·obtain e:q.length=n:=by omega
  exact hQ q k hd e (fun i hi=>hq i (by omega))
theorem ahd{α:Type}[Inhabited α]{a b:List α}(h:a.length=b.length)(e:∀i,i<a.length→nth a i=nth b i):a=b:=by
 refine List.ext_getElem h fun i h1 h2=>?_;have:=e i h1;simpa [nth,h1,h2] using this
theorem aur(a b:Us):eJ [0,0,1] a.row b.row=some (decide (a=b)):=by
 obtain⟨x,y,z⟩:=a;obtain⟨u,v,w⟩:=b;simp[eJ,jM,Us.mk.injEq,Bool.decide_and];cases z<;>cases w<;>simp
theorem aus(a b:Gs):eJ [0,1] a.row b.row=some (decide (a=b)):=by
 obtain⟨x,y⟩:=a;obtain⟨u,v⟩:=b;simp[eJ,jM,Gs.mk.injEq,Bool.decide_and];cases y<;>cases v<;>simp
theorem aut(a b:List Us)(ha:a.length≤5864062014805)(G:List aW):bt F 141 [jD a,jD b] G=some (.bool (decide (a=b)),G) :=
 cg rfl rfl (by
  generalize hW:decide (a=b)=W;by_cases h1:a.length=b.length
  case neg =>
   have nL:¬ (a.length:Int)=b.length:=by omega
   simp (disch:=omega) [-getElem?_pos,wrap64,ajm,nL];rw[←hW,decide_eq_false fun h=>h1 (by rw[h])]
  have nL:(a.length:Int)=b.length:=by omega
  simp (disch:=omega) [-getElem?_pos,wrap64,ajm,nL];refine go_loop (fun i:Nat=>asZ (jD a) (jD b) b.length i G) (fun i=>i≤a.length∧∀j,j<i→nth a j=nth b j) (fun i=>a.length-i) 0 rfl (by simp) (by simp) ?_
  rintro i ⟨hi,hj⟩;simp (disch:=omega) [-getElem?_pos,wrap64,arp];refine b9 (fun h5=>?_) (fun h5=>?_)
  ·have h5:i<b.length:=by omega
   have h6:i<a.length:=by omega
   have he:=aur (nth a i) (nth b i);simp only[Us.row]at he;by_cases h7:nth a i=nth b i
   ·rw[decide_eq_true h7]at he
    simp (disch:=omega) [-getElem?_pos,wrap64,bo (l:=a),bo (l:=b),V.gW,he];exact cc (i+1) (by simp) ⟨by omega,fun j EZ=>by
     by_cases g:j=i
     ·rw[g];exact h7
     ·exact hj j (by omega)⟩ (by omega)
   ·rw[decide_eq_false h7]at he
    simp (disch:=omega) [-getElem?_pos,wrap64,bo (l:=a),bo (l:=b),V.gW,he];rw[←hW,decide_eq_false fun h=>h7 (by rw[h])]
  ·rw[←hW,decide_eq_true (ahd h1 fun j EZ=>hj j (by omega))])
theorem auu(a b:List Gs)(ha:a.length≤8796093022208)(G:List aW):bt F 142 [ju a,ju b] G=some (.bool (decide (a=b)),G) :=
 cg rfl rfl (by
  generalize hW:decide (a=b)=W;by_cases h1:a.length=b.length
  case neg =>
   have nL:¬ (a.length:Int)=b.length:=by omega
   simp (disch:=omega) [-getElem?_pos,wrap64,ajn,nL];rw[←hW,decide_eq_false fun h=>h1 (by rw[h])]
  have nL:(a.length:Int)=b.length:=by omega
  simp (disch:=omega) [-getElem?_pos,wrap64,ajn,nL];refine go_loop (fun i:Nat=>as1 (ju a) (ju b) b.length i G) (fun i=>i≤a.length∧∀j,j<i→nth a j=nth b j) (fun i=>a.length-i) 0 rfl (by simp) (by simp) ?_
  rintro i ⟨hi,hj⟩;simp (disch:=omega) [-getElem?_pos,wrap64,arq];refine b9 (fun h5=>?_) (fun h5=>?_)
  ·have h5:i<b.length:=by omega
   have h6:i<a.length:=by omega
   have he:=aus (nth a i) (nth b i);simp only[Gs.row]at he;by_cases h7:nth a i=nth b i
   ·rw[decide_eq_true h7]at he
    simp (disch:=omega) [-getElem?_pos,wrap64,bo (l:=a),bo (l:=b),V.gW,he];exact cc (i+1) (by simp) ⟨by omega,fun j EZ=>by
     by_cases g:j=i
     ·rw[g];exact h7
     ·exact hj j (by omega)⟩ (by omega)
   ·rw[decide_eq_false h7]at he
    simp (disch:=omega) [-getElem?_pos,wrap64,bo (l:=a),bo (l:=b),V.gW,he];rw[←hW,decide_eq_false fun h=>h7 (by rw[h])]
  ·rw[←hW,decide_eq_true (ahd h1 fun j EZ=>hj j (by omega))])
noncomputable instance:DecidableEq Ds:=fun _ _=>Classical.propDecidable _
noncomputable instance:DecidableEq Fl:=fun _ _=>Classical.propDecidable _
def dsL(s:Ds):Prop:=s.u.length≤5864062014805∧s.g.length≤8796093022208
theorem auv(a b:Ds)(h:dsL a)(G:List aW):bt F 81 [dst a,dst b] G=some (.bool (decide (a=b)),G) :=
 cg rfl rfl (by
  obtain⟨v,r,u,g⟩:=a;obtain⟨v2,r2,u2,g2⟩:=b;have e1:=aut u u2 h.1;have e2:=auu g g2 h.2;rw[show decide ((⟨v,r,u,g⟩:Ds)=⟨v2,r2,u2,g2⟩)=(decide (v=v2)&&decide (r=r2)&&decide (u=u2)&&decide (g=g2)) by
   rw[←Bool.decide_and,← Bool.decide_and,← Bool.decide_and];congr 1;simp[Ds.mk.injEq,and_assoc]]
  by_cases h1:v=v2
  ·by_cases h2:r=r2
   ·by_cases h3:u=u2
    ·rw[decide_eq_true h3]at e1
     rw[decide_eq_true h1,decide_eq_true h2,decide_eq_true h3];simp[wrap64,V8,h1,h2,e1,e2]
    ·rw[decide_eq_false h3]at e1
     rw[decide_eq_true h1,decide_eq_true h2,decide_eq_false h3];simp[wrap64,V8,h1,h2,e1]
   ·rw[decide_eq_true h1,decide_eq_false h2]
    simp[wrap64,V8,h1,h2]
  ·rw[decide_eq_false h1]
   simp[wrap64,V8,h1])
theorem auw(a b:List Int)(h:a.length≤17592186044416)(G:List aW):bt F 83 [wv a,wv b] G=some (.bool (decide (a=b)),G) :=
 cg rfl rfl (by
  have e1:=asi a b h;simp[wrap64,apm,e1])
theorem auy(a b:List Ds)(ha:a.length≤1000000000)(h:∀i,i<a.length→dsL (nth a i))(G:List aW):bt F 80 [tY a,tY b,.fn 81 []] G=some (.bool (decide (a=b)),G) :=
 cg rfl rfl (by
  generalize hW:decide (a=b)=W;by_cases h1:a.length=b.length
  case neg =>
   have nL:¬ (a.length:Int)=b.length:=by omega
   simp (disch:=omega) [-getElem?_pos,wrap64,ai4,nL];rw[←hW,decide_eq_false fun h=>h1 (by rw[h])]
  have nL:(a.length:Int)=b.length:=by omega
  simp (disch:=omega) [-getElem?_pos,wrap64,ai4,nL];refine go_loop (fun i:Nat=>asJ (tY b) (.fn 81 []) (tY a) b.length i G) (fun i=>i≤a.length∧∀j,j<i→nth a j=nth b j) (fun i=>a.length-i) 0 rfl (by simp) (by simp) ?_
  rintro i ⟨hi,hj⟩;simp (disch:=omega) [-getElem?_pos,wrap64,arj];refine b9 (fun h5=>?_) (fun h5=>?_)
  ·have h5:i<b.length:=by omega
   have h6:i<a.length:=by omega
   have he:=auv (nth a i) (nth b i) (h i h6);by_cases h7:nth a i=nth b i
   ·rw[decide_eq_true h7]at he
    simp (disch:=omega) [-getElem?_pos,wrap64,bo (l:=a),bo (l:=b),he];exact cc (i+1) (by simp) ⟨by omega,fun j EZ=>by
     by_cases g:j=i
     ·rw[g];exact h7
     ·exact hj j (by omega)⟩ (by omega)
   ·rw[decide_eq_false h7]at he
    simp (disch:=omega) [-getElem?_pos,wrap64,bo (l:=a),bo (l:=b),he];rw[←hW,decide_eq_false fun h=>h7 (by rw[h])]
  ·rw[←hW,decide_eq_true (ahd h1 fun j EZ=>hj j (by omega))])
theorem auz(a b:List (List Int))(ha:a.length≤1000000000)(h:∀i,i<a.length→(nth a i).length≤17592186044416)(G:List aW):bt F 82 [tZ a,tZ b,.fn 83 []] G=some (.bool (decide (a=b)),G) :=
 cg rfl rfl (by
  generalize hW:decide (a=b)=W;by_cases h1:a.length=b.length
  case neg =>
   have nL:¬ (a.length:Int)=b.length:=by omega
   simp (disch:=omega) [-getElem?_pos,wrap64,ai9,nL];rw[←hW,decide_eq_false fun h=>h1 (by rw[h])]
  have nL:(a.length:Int)=b.length:=by omega
  simp (disch:=omega) [-getElem?_pos,wrap64,ai9,nL];refine go_loop (fun i:Nat=>asL (tZ b) (.fn 83 []) (tZ a) b.length i G) (fun i=>i≤a.length∧∀j,j<i→nth a j=nth b j) (fun i=>a.length-i) 0 rfl (by simp) (by simp) ?_
  rintro i ⟨hi,hj⟩;simp (disch:=omega) [-getElem?_pos,wrap64,ark];refine b9 (fun h5=>?_) (fun h5=>?_)
  ·have h5:i<b.length:=by omega
   have h6:i<a.length:=by omega
   have he:=auw (nth a i) (nth b i) (h i h6);by_cases h7:nth a i=nth b i
   ·rw[decide_eq_true h7]at he
    simp (disch:=omega) [-getElem?_pos,wrap64,bo (l:=a),bo (l:=b),he];exact cc (i+1) (by simp) ⟨by omega,fun j EZ=>by
     by_cases g:j=i
     ·rw[g];exact h7
     ·exact hj j (by omega)⟩ (by omega)
   ·rw[decide_eq_false h7]at he
    simp (disch:=omega) [-getElem?_pos,wrap64,bo (l:=a),bo (l:=b),he];rw[←hW,decide_eq_false fun h=>h7 (by rw[h])]
  ·rw[←hW,decide_eq_true (ahd h1 fun j EZ=>hj j (by omega))])
def flL(f:Fl):Prop:=(f.d.length≤1000000000∧∀i,i<f.d.length→dsL (nth f.d i))∧f.w.length≤1000000000∧∀i,i<f.w.length→(nth f.w i).length≤17592186044416
theorem auA(a b:Fl)(h:flL a)(G:List aW):bt F 37 [fl a,fl b] G=some (.bool (decide (a=b)),G) :=
 cg rfl rfl (by
  obtain⟨t,d,w⟩:=a;obtain⟨t2,d2,w2⟩:=b;have e1:=auy d d2 h.1.1 h.1.2;have e2:=auz w w2 h.2.1 h.2.2;rw[show decide ((⟨t,d,w⟩:Fl)=⟨t2,d2,w2⟩)=(decide (t=t2)&&decide (d=d2)&&decide (w=w2)) by
   rw[←Bool.decide_and,← Bool.decide_and];congr 1;simp[Fl.mk.injEq,and_assoc]]
  by_cases h1:t=t2
  ·by_cases h2:d=d2
   ·rw[decide_eq_true h2]at e1
    rw[decide_eq_true h1,decide_eq_true h2];simp[wrap64,acf,h1,e1,e2]
   ·rw[decide_eq_false h2]at e1
    rw[decide_eq_true h1,decide_eq_false h2];simp[wrap64,acf,h1,e1]
  ·rw[decide_eq_false h1]
   simp[wrap64,acf,h1])
theorem apR(n:Int)(l:List Lk)(hl:l.length≤1000)(x:Int)(G:List aW):bt F 36 [.agg [i64 n,nN l],i64 x] G=some (i64 (rK (lu l x)),G) :=
 cg rfl rfl (by
  generalize hW:rK (lu l x)=W;simp (disch:=omega) [-getElem?_pos,wrap64,UE];refine go_loop (fun i:Nat=>aih x (nN l) l.length i G) (fun i=>i≤l.length∧rK (fd (fun i=>decide ((nth l i).f=x)) (l.length-i) i)=W) (fun i=>l.length-i) 0 rfl (by simp) ⟨by omega,hW⟩ ?_
  rintro i ⟨hi,hw⟩;simp (disch:=omega) [-getElem?_pos,wrap64,abe];refine b9 (fun h5=>?_) (fun h5=>?_)
  ·have h5:i<l.length:=by omega
   rw[VA h5]at hw;by_cases h6:(nth l i).f=x
   ·rw[if_pos (by simpa using h6)]at hw
    simp (disch:=omega) [-getElem?_pos,wrap64,bo (l:=l),h6];exact hw
   ·rw[if_neg (by simpa using h6)]at hw
    simp (disch:=omega) [-getElem?_pos,wrap64,bo (l:=l),h6];exact cc (i+1) (by simp) ⟨by omega,hw⟩ (by omega)
  ·obtain rfl:i=l.length:=by omega
   rw[VB]at hw;exact hw)
theorem Kv.YH{r:Rr}(h:Kv r):∀{j i:Nat},i<j→j<r.l.length→(nth r.l i).f<(nth r.l j).f
 |j+1,i,hi,hj=>by
  have a:=(h.link hj).2.1 (by omega)
  rw[Nat.add_sub_cancel]at a;rcases Nat.lt_or_ge i j with g|g
  ·exact Int.lt_trans (Kv.YH h g (by omega)) a
  ·obtain rfl:i=j:=by omega
   exact a
theorem Kv.inj{r:Rr}(h:Kv r){i j:Nat}(hi:i<r.l.length)(hj:j<r.l.length)(e:(nth r.l i).f=(nth r.l j).f):i=j:=by
 rcases Nat.lt_trichotomy i j with g|g|g
 ·have:=h.YH g hj;omega
 ·exact g
 ·have:=h.YH g hi;omega
structure Pa0(l:List Lk)(n m:Int)(L:List Int):Prop where
 one:n∈L
 last:m∈L
 clo:∀a∈L,a≠m→∀i,i<l.length→(nth l i).f=a→(nth l i).t∈L
 le:(L.length:Int)≤m+1
end Go.Proofs.YtmpikpodpgnjhaaGreat
namespace Go.Proofs.YtmpikpodpgnjhaaGreat
set_option linter.all false
open Go.Vm
abbrev dL(r:Rr):Cs:=⟨r,[]⟩
abbrev fI(a:List Int):Sp:=⟨a,[],[]⟩
theorem aqL(r:Rr)(k:Int):me (dL r).s k=none:=rfl
theorem ahe{r:Rr}{p:Sp}{v:Co}{k:Nat}:fG (dL r) p v k=nth v.arr k:=rfl
structure Drw(r:Rr)(a:List Int)(w:List (List Int))(k:Nat):Prop where
 v:∀j,j<k→vE (dL r) (fI a) (cB (dL r) (fI a) ⟨0,[],w⟩ j) j=0
 arr:∀j,j<a.length→nth (cB (dL r) (fI a) ⟨0,[],w⟩ k).arr j≤30*(2:Int) ^ k
theorem auC{r:Rc}(hr:e8 r=0){x:Int}(hx:0≤x∧x≤100000):gD r [] x=0∧m5 r [] x≤x:=by
 have hv:=wa hr;have hf:iv r []:=⟨by simp,by simp,fun i hi=>absurd hi (by simp)⟩
 have hq:∀k,rq r [] x k=x*nth r.w k:=fun k=>by unfold rq;rw[wb (by simp),Int.zero_add]
 have hw:∀k,0≤nth r.w k∧nth r.w k≤10000:=fun k=>by
  rcases Nat.lt_or_ge k r.w.length with g|g
  ·exact hv.w k g
  ·rw[wb g];omega
 have hp:sV r [] x:=fun k _=>by
  rw[hq];have:=Int.mul_le_mul hx.2 (hw k).2 (hw k).1 (by omega)
  omega
 refine⟨by unfold gD;rw[if_neg (by omega:¬ (e8 r≠0)),if_pos hf,if_pos ⟨by omega,hp⟩],?_⟩
 unfold m5;rw[hq];have hd:=hv.den;have h0:nth r.w 0≤r.den:=by
  rw[←hv.sum];obtain⟨n,hn⟩:∃n,r.w.length=n+1:=⟨r.w.length-1,by have:=hv.pos;omega⟩
  have key:∀m,nth r.w 0≤sm r.w (m+1):=by
   intro m;induction m with
   |zero=>simp[sm]
   |succ m ih=>have:=(hw (m+1)).1;simp only[sm]at ih ⊢;omega
  rw[hn];exact key n
 have h1:x*nth r.w 0≤x*r.den:=Int.mul_le_mul_of_nonneg_left h0 hx.1;have h2:x*nth r.w 0 / r.den≤x*r.den / r.den:=Int.ediv_le_ediv (by omega) h1
 rwa [Int.mul_ediv_cancel _ (by omega)]at h2
theorem aqQ{r:Rr}(hk:jJ r=0)(hn:r.n≤6){a:List Int}(ha:(a.length:Int)=r.n)(BW:fN a 30){w:List (List Int)}(hw:w=List.replicate r.l.length []):∀k:Nat,(k:Int)≤r.n→Drw r a w k
 |0,_=>⟨fun j hj=>absurd hj (by omega),fun j hj=>by
  have:=(BW j hj).2;show nth a j≤30*(2:Int) ^ 0;simpa using this⟩
 |k+1,hle=>by
  have ih:=aqQ hk hn ha BW hw k (by omega)
  have kv:=nP hk;have cv:xu (dL r):=by
   have hc:gu (dL r)=0:=by
    unfold gu;rw[if_neg (by omega:¬ (jJ r≠0)),if_neg (by omega:¬ (12<r.n)),if_neg (by simp)]
    rfl
   exact oZ hc
  have NR:kB (dL r) ⟨0,[],w⟩:=⟨show 0≤(0:Int)∧(0:Int)≤16777216 by decide,⟨rfl,by simp⟩,by simp[hw],fun i hi=>⟨(kv.link hi).2.2,by
   have e:nth w i=[]:=by simp[hw,nth,List.getD,hi]
   rw[e];exact⟨by simp,by simp,fun j hj=>absurd hj (by simp)⟩⟩⟩
  have g5:oq (dL r) (fI a):=⟨ha,rfl,rfl⟩;have pW:fN ((fI a).a++(fI a).b++(fI a).c) 1073741824:=by
   rw[AZ,AZ];exact⟨⟨fun i hi=>by
    have:=BW i hi;show 0≤nth a i∧nth a i≤1073741824;omega,fun i hi=>absurd hi (by simp)⟩,fun i hi=>absurd hi (by simp)⟩
  have hc:gu (dL r)=0:=by
   unfold gu;rw[if_neg (by omega:¬ (jJ r≠0)),if_neg (by omega:¬ (12<r.n)),if_neg (by simp)]
   rfl
  have hv:=vcs hc NR g5 pW (k:=k) ih.v;have vq:=(zW cv (fI a) ⟨0,[],w⟩ k).l;have FH:=NJ cv (fI a) ⟨0,[],w⟩ k;have pW:((cB (dL r) (fI a) ⟨0,[],w⟩ k).arr.length:Int)=r.n:=hv.xw;have p2:(2:Int) ^ (k+1)=2 ^ k*2:=Int.pow_succ _ _;have hk6:k=0∨k=1∨k=2∨k=3∨k=4∨k=5:=by omega
  have pk:(1:Int)≤2 ^ k∧(2:Int) ^ k≤32:=by rcases hk6 with rfl|rfl|rfl|rfl|rfl|rfl<;>decide
  have hx:=hv.arr k (by omega)
  have Pv:=ih.arr k (by omega)
  have iha:=ih.arr;generalize Cq:cB (dL r) (fI a) ⟨0,[],w⟩ k=v at *;have Ut:cB (dL r) (fI a) ⟨0,[],w⟩ (k+1)=vS (dL r) (fI a) v k:=by rw[←Cq];rfl
  cases hl:lu r.l k with
  |none =>
   have e0:vE (dL r) (fI a) v k=0:=by
    have:nQ (dL r) v (fG (dL r) (fI a) v k) k=0:=by unfold nQ;rw[hl]
    unfold vE lO;rw[aqL];exact this
   refine⟨fun j hj=>?_,fun j hj=>?_⟩
   ·by_cases g:j=k
    ·subst g;rw[Cq];exact e0
    ·exact ih.v j (by omega)
   ·rw[Ut]
    have:(vS (dL r) (fI a) v k).arr=v.arr:=by
     unfold vS vL;rw[hl];exact EG.1
    rw[this,p2];have:=iha j hj;omega
  |some m =>
   obtain⟨q1,q2⟩:=xB (c:=dL r) hl;have q1:m<r.l.length:=q1;have q3:=(uW vq (fun j h0 hj=>(kv.link hj).2.1 h0) q1 q2).1;have A3:=kv.link q1;have ew:nth v.w m=[]:=by
    rw[FH.w.2 m (by omega)]
    simp[hw,nth,List.getD,q1]
   obtain⟨e1,e2⟩:=auC A3.2.2 (x:=nth v.arr k) (by omega)
   have e0:vE (dL r) (fI a) v k=0:=by
    have:nQ (dL r) v (fG (dL r) (fI a) v k) k=0:=by
     unfold nQ;rw[hl,ahe];show gD (nth r.l m).r (nth v.w m) (nth v.arr k)=0;rw[ew];exact e1
    unfold vE lO;rw[aqL];exact this
   refine⟨fun j hj=>?_,fun j hj=>?_⟩
   ·by_cases g:j=k
    ·subst g;rw[Cq];exact e0
    ·exact ih.v j (by omega)
   ·rw[Ut]
    have hs:(vS (dL r) (fI a) v k).arr=v.arr.set (nth r.l m).t.toNat (nth v.arr (nth r.l m).t.toNat+m5 (nth r.l m).r [] (nth v.arr k)):=by
     unfold vS;rw[(amq (v:=v) (EG (c:=dL r) (p:=fI a) (v:=v) (k:=k)).1 EG.2.1 EG.2.2.1).1,ahe];unfold vL;rw[show lu (dL r).r.l k=some m from hl];show v.arr.set _ (_+m5 (nth r.l m).r (nth v.w m) _)=_;rw[ew]
    have htl:(nth r.l m).t.toNat<v.arr.length:=by omega
    have nD:=iha j hj;rw[hs,xv htl,p2];split
    ·have:=iha (nth r.l m).t.toNat (by omega)
     omega
    ·omega
end Go.Proofs.YtmpikpodpgnjhaaGreat
namespace Go.Proofs.YtmpikpodpgnjhaaGreat
set_option linter.all false
open Go.Vm
attribute [local simp] eU eV eS eT
theorem auD{r:Rr}(hk:jJ r=0){w:List (List Int)}(hw:w.length=r.l.length)(hf:∀i,i<r.l.length→iv (nth r.l i).r (nth w i))(G:List aW):bt F 85 [rr r,tZ w] G=some (.bool true,G) :=
 cg rfl rfl (by
  have kv:=nP hk;have IE:=kv.len;have hw':(w.length:Int)=r.l.length:=by omega
  simp +contextual (disch:=omega) [-getElem?_pos,-List.length_eq_zero_iff,-Int.natCast_eq_zero,wrap64,apq,hw'];refine go_loop (fun i:Nat=>asN (tZ w) (nN r.l) r.l.length i G) (fun i=>i≤r.l.length) (fun i=>r.l.length-i) 0 rfl (by simp) (by simp) ?_
  rintro i hi;simp +contextual (disch:=omega) [-getElem?_pos,-List.length_eq_zero_iff,-Int.natCast_eq_zero,wrap64,arl];refine b9 (fun h5=>?_) (fun h5=>?_)
  ·have h5:i<r.l.length:=by omega
   have h6:i<w.length:=by omega
   have A3:=(kv.link h5).2.2;have tX:=hf i h5;have hlen:=(wa A3).len;have hV:=Ve (nth r.l i).r (by omega) (nth w i) (by have:=tX.1;omega)
   rw[decide_eq_true ⟨A3,tX⟩]at hV;simp +contextual (disch:=omega) [-getElem?_pos,-List.length_eq_zero_iff,-Int.natCast_eq_zero,wrap64,bo (l:=r.l),bo (l:=w),hV];exact cc (i+1) (by simp) (by omega) (by omega)
  ·trivial)
def ahv:Option (List Int)→V
 |none=>.aK
 |some p=>.slice none 1 (p.map fun n=>[i64 n])
def tx(W:List (Option (List Int))):List V:=W.map ahv
@[simp] theorem av3{W:List (Option (List Int))}:(tx W).length=W.length:=by simp[tx]
@[simp] theorem av4{W:List (Option (List Int))}{i:Nat}{p:List Int}:(tx W).set i (.slice none 1 (p.map fun n=>[i64 n]))=tx (W.set i (some p)):=by simp[tx,ahv]
theorem arJ:∀{W:List (Option (List Int))} {cs:List V} {off:Nat},cs.drop off=tx W→chunks 1 cs off W.length=W.map fun o=>[ahv o]
 |[],cs,off,h=>by simp[chunks]
 |o::W,cs,off,h=>by
  have h2:cs.drop (off+1)=tx W:=by rw[←List.drop_drop,h];simp[tx]
  rw[List.length_cons,chunks,arJ h2,h];simp[tx]
theorem auF{W:List (Option (List Int))}{n:Nat}(h:n=W.length):ly [some 1] (chunks 1 (tx W) 0 n)=some (W.map fun o=>[ints (o.getD [])]):=by
 subst h;rw[arJ (W:=W) rfl];induction W with
 |nil=>rfl
 |cons o W ih =>
  have e:lP [some 1] [ahv o]=some [ints (o.getD [])]:=by cases o<;>rfl
  simp only[List.map_cons,ly,e,ih]
@[simp] theorem av5{W:List (Option (List Int))}{d:Nat}:((tx W).all fun v => !V.cI d v)=true:=by
 simp only[tx,List.all_map,List.all_eq_true,Function.comp];intro o _;cases o<;>rfl
theorem auG{n:Nat}:List.replicate n V.aK=tx (List.replicate n none):=by simp[tx,ahv]
theorem auH{r:Rr}{p:Sp}{v:Co}{k:Nat}(hl:lu r.l k=none):(vS (dL r) p v k).arr=v.arr:=by
 unfold vS vL;rw[show lu (dL r).r.l k=none from hl];exact EG.1
theorem auI{r:Rr}{p:Sp}{v:Co}{k m:Nat}(hl:lu r.l k=some m):(vS (dL r) p v k).arr=v.arr.set (nth r.l m).t.toNat (nth v.arr (nth r.l m).t.toNat+m5 (nth r.l m).r (nth v.w m) (nth v.arr k)):=by
 unfold vS;rw[(amq (v:=v) (EG (c:=dL r) (p:=p) (v:=v) (k:=k)).1 EG.2.1 EG.2.2.1).1,ahe];unfold vL;rw[show lu (dL r).r.l k=some m from hl]
theorem auJ{r:Rr}{p:Sp}{v:Co}{k m:Nat}(hl:lu r.l k=some m):vE (dL r) p v k=gD (nth r.l m).r (nth v.w m) (nth v.arr k):=by
 have:nQ (dL r) v (fG (dL r) p v k) k=gD (nth r.l m).r (nth v.w m) (nth v.arr k):=by
  unfold nQ;rw[show lu (dL r).r.l k=some m from hl,ahe]
 unfold vE lO;rw[aqL];exact this
set_option maxRecDepth 100000 in
set_option maxHeartbeats 1000000 in
theorem auK{r:Rr}(hr:oo r)(hk:jJ r=0)(hn:r.n≤6){a:List Int}(ha:(a.length:Int)=r.n)(BW:fN a 30){w:List (List Int)}(hw:w=List.replicate r.l.length []) :
  ∃u t G',bt F 39 [rr r,tZ w,ints a] []=some (.tuple [u,.slice t 1 ((cB (dL r) (fI a) ⟨0,[],w⟩ r.n.toNat).arr.map fun n=>[i64 n]),i64 0],G')∧u.iH=true:=by
 suffices h:∀Q:V→Prop,(∀u t,u.iH=true→Q (.tuple [u,.slice t 1 ((cB (dL r) (fI a) ⟨0,[],w⟩ r.n.toNat).arr.map fun n=>[i64 n]),i64 0]))→jq (bt F) 39 [rr r,tZ w,ints a] [] fun v _=>Q v by
  obtain⟨_,G',h,u,t,rfl,hu⟩:=h (fun v=>∃u t,v=.tuple [u,.slice t 1 ((cB (dL r) (fI a) ⟨0,[],w⟩ r.n.toNat).arr.map fun n=>[i64 n]),i64 0]∧u.iH=true) fun u t hu=>⟨u,t,rfl,hu⟩;exact⟨u,t,G',h,hu⟩
 intro Q hQ;refine jV rfl rfl ?_;have kv:=nP hk;have ji:=kv.n;have IE:=kv.len;have dw:=aqQ hk hn ha BW hw;have hC:=HO r hr;rw[hk]at hC;have hwl:w.length=r.l.length:=by rw[hw];simp
 have V5:∀i,i<r.l.length→nth w i=[]:=fun i hi=>by simp[hw,nth,List.getD,hi]
 have hW:=auD hk hwl fun i hi=>by rw[V5 i hi];exact⟨by simp,by simp,fun j hj=>absurd hj (by simp)⟩
 have hL:=fun x=>apR r.n r.l (by omega) x
 have hae:a.isEmpty=false:=by cases e:a with|nil=>simp[e]at ha;omega|cons=>rfl
 have av6:(w.length:Int)=r.l.length:=by omega
 have hc:gu (dL r)=0:=by
  unfold gu;rw[if_neg (by omega:¬ (jJ r≠0)),if_neg (by omega:¬ (12<r.n)),if_neg (by simp)]
  rfl
 have cv:xu (dL r):=oZ hc;have NR:kB (dL r) ⟨0,[],w⟩:=⟨show 0≤(0:Int)∧(0:Int)≤16777216 by decide,⟨rfl,by simp⟩,hwl,fun i hi=>⟨(kv.link hi).2.2,by
  rw[show nth (⟨0,[],w⟩:Fl).w i=[] from V5 i hi];exact⟨by simp,by simp,fun j hj=>absurd hj (by simp)⟩⟩⟩
 have pW:fN ((fI a).a++(fI a).b++(fI a).c) 1073741824:=by
  rw[AZ,AZ];exact⟨⟨fun i hi=>by
   have:=BW i hi;show 0≤nth a i∧nth a i≤1073741824;omega,fun i hi=>absurd hi (by simp)⟩,fun i hi=>absurd hi (by simp)⟩
 have BV:=fun(k:Nat) (hle:(k:Int)≤r.n)=>vcs hc NR (⟨ha,rfl,rfl⟩:oq (dL r) (fI a)) pW (k:=k) (dw k hle).v;simp +contextual (disch:=omega) [-getElem?_pos,-List.length_eq_zero_iff,-Int.natCast_eq_zero,wrap64,apk,hC,hW,ha];refine go_loop (fun i:Nat=>asf (tZ w) (ints a) (ints a) a.length i [i64 r.n,nN r.l] []) (fun i=>i≤a.length) (fun i=>a.length-i) 0 rfl (by simp[ha]) (by simp) ?_
 rintro i hi;simp +contextual (disch:=omega) [-getElem?_pos,-List.length_eq_zero_iff,-Int.natCast_eq_zero,wrap64,aq7];refine b9 (fun h5=>?_) (fun h5=>?_)
 ·have h5:i<a.length:=by omega
  have h6:=BW i h5;have h7:0≤nth a i:=h6.1;have h8:nth a i≤1073741824:=by omega
  simp +contextual (disch:=omega) [-getElem?_pos,-List.length_eq_zero_iff,-Int.natCast_eq_zero,wrap64,eA (l:=a),c5,h7,h8];exact cc (i+1) (by simp) (by omega) (by omega)
 simp +contextual (disch:=omega) [-getElem?_pos,-List.length_eq_zero_iff,-Int.natCast_eq_zero,wrap64,hae,auG,hwl];refine go_loop (fun y:Nat×List (Option (List Int))=>asl (tZ w) a.length r.l.length r.n y.1 [i64 r.n,nN r.l] (tx y.2) (dS (cB (dL r) (fI a) ⟨0,[],w⟩ y.1).arr) [])
  (fun y=>(y.1:Int)≤r.n∧y.2.length=r.l.length) (fun y=>(r.n-y.1).toNat) (0,List.replicate r.l.length none) rfl (by simp[cB]) ⟨by simp only;omega,by simp⟩ ?_
 rintro⟨k,W⟩ ⟨hk6,hWl⟩;simp only at hk6 hWl;have hv:=BV k hk6;have FH:=NJ cv (fI a) ⟨0,[],w⟩ k;have vq:=(zW cv (fI a) ⟨0,[],w⟩ k).l;have Xx:((cB (dL r) (fI a) ⟨0,[],w⟩ k).arr.length:Int)=r.n:=hv.xw;have hla:(cB (dL r) (fI a) ⟨0,[],w⟩ k).arr.length=a.length:=by omega
 have EO:cB (dL r) (fI a) ⟨0,[],w⟩ (k+1)=vS (dL r) (fI a) (cB (dL r) (fI a) ⟨0,[],w⟩ k) k:=rfl;simp +contextual (disch:=omega) [-getElem?_pos,-List.length_eq_zero_iff,-Int.natCast_eq_zero,wrap64,aq8];refine b9 (fun h9=>?_) (fun h9=>?_)
 ·have e0:=(dw (k+1) (by omega)).v k (by omega)
  have hx:=hv.arr k (by omega)
  cases hl:lu r.l k with
  |none =>
   have e:rK none = -1:=rfl;simp +contextual (disch:=omega) [-getElem?_pos,-List.length_eq_zero_iff,-Int.natCast_eq_zero,wrap64,hL,hl,e];exact cc (k+1,W) (by simp[EO,auH hl]) ⟨by simp only;omega,hWl⟩ (by simp only;omega)
  |some m =>
   obtain⟨q1,q2⟩:=xB (c:=dL r) hl;have q1:m<r.l.length:=q1;have q3:=(uW vq (fun j h0 hj=>(kv.link hj).2.1 h0) q1 q2).1;have A3:=kv.link q1;have ew:nth (cB (dL r) (fI a) ⟨0,[],w⟩ k).w m=[]:=by
    rw[FH.w.2 m (by omega)]
    exact V5 m q1
   rw[auJ hl,ew]at e0;have j8:=auI (p:=fI a) (v:=cB (dL r) (fI a) ⟨0,[],w⟩ k) hl;rw[ew,← EO]at j8;have hlen:=(wa A3.2.2).len;obtain⟨tt,hR⟩:=ajj (nth r.l m).r (by omega) (nth w m) (by rw[V5 m q1];simp) (nth (cB (dL r) (fI a) ⟨0,[],w⟩ k).arr k)
   rw[V5 m q1,EB e0]at hR;have ho:=EE e0;obtain⟨u,hu⟩:∃u:Nat,(nth r.l m).t=u:=⟨(nth r.l m).t.toNat,by omega⟩
   rw[hu,Int.toNat_natCast]at j8;have hux:=hv.arr u (by omega)
   generalize cB (dL r) (fI a) ⟨0,[],w⟩ k=v at *;have hwm:=V5 m q1;have e:rK (some m)=(m:Int):=rfl;have Dd:¬ ((m:Int)<0):=by omega
   simp only[wv,ints,List.map_nil]at hR;simp +contextual (disch:=omega) [-getElem?_pos,-List.length_eq_zero_iff,-Int.natCast_eq_zero,wrap64,hL,hl,e,Dd,bo (l:=r.l),bo (l:=w),hwm,kT,hR,hu];exact cc (k+1,W.set m (some (m7 (nth r.l m).r [] (nth v.arr k)))) (by simp[j8]) ⟨by simp only;omega,by simp[hWl]⟩ (by simp only;omega)
 ·obtain rfl:k=r.n.toNat:=by omega
  simp +contextual (disch:=omega) [-getElem?_pos,-List.length_eq_zero_iff,-Int.natCast_eq_zero,wrap64,auF,hla];exact hQ _ _ rfl
theorem arM(r:Rr):lD (dL r) []=⟨0,[],List.replicate r.l.length []⟩:=rfl
theorem arN{r:Rr}(hk:jJ r=0)(hn:r.n≤6):gu (dL r)=0:=by
 unfold gu;rw[if_neg (by omega:¬ (jJ r≠0)),if_neg (by omega:¬ (12<r.n)),if_neg (by simp)]
 rfl
theorem auO{r:Rr}(hk:jJ r=0)(hn:r.n≤6){a:List Int}(ha:(a.length:Int)=r.n)(BW:fN a 30):ot (dL r) (lD (dL r) []) (fI a)=0:=by
 have hc:=arN hk hn;have hf:kB (dL r) (lD (dL r) []):=(VF hc).2 ⟨rfl,fun i hi=>absurd hi (by simp)⟩
 have kn:=(nP hk).n;rw[aqf hc hf];unfold jK;rw[if_pos ⟨ha,rfl,rfl⟩,if_pos,if_neg (show ¬ ((lD (dL r) []).t=16777216) from fun h=>absurd (show(0:Int)=16777216 from h) (by decide))]
 ·exact rC fun j _ hj=>(aqQ hk hn ha BW rfl r.n.toNat (by omega)).v j (by have e:(dL r).r.n=r.n:=rfl;omega)
 ·rw[AZ,AZ]
  exact⟨⟨fun i hi=>by
   have:=BW i hi;show 0≤nth a i∧nth a i≤1073741824;omega,fun i hi=>absurd hi (by simp)⟩,fun i hi=>absurd hi (by simp)⟩
theorem auP{r:Rr}{a:List Int}{f:Fl}(h:Pa (dL r) f (fI a)):(zV (dL r) f (fI a)).lf=(cB (dL r) (fI a) f r.n.toNat).arr:=by
 have hv:=h.vc (Nat.le_refl _);have hh:=BR h (Nat.le_refl _);have cv:=oZ h.c0;have wQ:=(NG cv (fI a) f).2;have pW:((cB (dL r) (fI a) f r.n.toNat).arr.length:Int)=r.n:=hv.xw;have km:(zV (dL r) f (fI a)).lf.length=r.n.toNat:=hv.ll;refine ahd (by omega) fun k hk=>?_
 have Iw:k<r.n.toNat:=by omega
 have lC:k<(cB (dL r) (fI a) f r.n.toNat).arr.length:=by omega
 have e1:nth (zV (dL r) f (fI a)).lf k=_:=hh.lf k Iw;have e2:nth (cB (dL r) (fI a) f r.n.toNat).arr k=_:=hh.arr k lC;rw[e1,e2,ahe,akC h Iw,wQ]
theorem auQ(x:Ps)(hr:x.re.length≤5000)(hl:x.lf.length≤1000)(hc:x.cm.length≤1000)(G:List aW):bt F 43 [ps x,ps x] G=some (.bool true,G) :=
 cg rfl rfl (by
  have e1:=atW x.re hr;have e2:=arG x.lf x.lf (by omega)
  have e3:=arG x.cm x.cm (by omega)
  rw[decide_eq_true rfl]at e2 e3;simp +contextual (disch:=omega) [-getElem?_pos,-List.length_eq_zero_iff,-Int.natCast_eq_zero,wrap64,apl,e1,e2,e3])
def psL(x:Ps):Prop:=x.re.length≤5000∧x.lf.length≤1000∧x.cm.length≤1000
instance:Inhabited Ps:=⟨⟨[],[],[]⟩⟩
theorem auR(l:List Ps)(h:l.length≤1000000)(hp:∀i,i<l.length→psL (nth l i))(G:List aW):bt F 38 [.slice none 3 (l.map Ps.row),.slice none 3 (l.map Ps.row)] G=some (.bool true,G) :=
 cg rfl rfl (by
  simp +contextual (disch:=omega) [-getElem?_pos,-List.length_eq_zero_iff,-Int.natCast_eq_zero,wrap64,ao8];refine go_loop (fun i:Nat=>asd (.slice none 3 (l.map Ps.row)) (.slice none 3 (l.map Ps.row)) l.length i G) (fun i=>i≤l.length) (fun i=>l.length-i) 0 rfl (by simp) (by simp) ?_
  intro i hi;simp +contextual (disch:=omega) [-getElem?_pos,-List.length_eq_zero_iff,-Int.natCast_eq_zero,wrap64,aq6];refine b9 (fun h5=>?_) (fun h5=>?_)
  ·have h5:i<l.length:=by omega
   obtain⟨p1,p2,p3⟩:=hp i h5;have e:=auQ (nth l i) p1 p2 p3;simp +contextual (disch:=omega) [-getElem?_pos,-List.length_eq_zero_iff,-Int.natCast_eq_zero,wrap64,bo (l:=l),e];exact cc (i+1) (by simp) (by omega) (by omega)
  ·trivial)
theorem auS{c:Cs}{f:Fl}{l:List Sp}(h:Ra c f l){k:Nat}(hk:k<l.length):psL (E1 c f l k):=by
 have hp:=h.pa hk;have cv:=oZ h.c0;have kv:=nP cv.k;have hv:=hp.vc (Nat.le_refl _);have wQ:=NG cv (nth l k) (hY c f l k);have e1:(E1 c f l k).re.length=c.s.length:=wQ.1;have e2:(E1 c f l k).lf.length=c.r.n.toNat:=hv.ll;have e3:(E1 c f l k).cm.length=c.r.l.length:=wQ.2;have:=cv.s;have:=cv.n;have:=kv.len;exact⟨by omega,by omega,by omega⟩
theorem auT{c:Cs}{f:Fl}(hc:gu c=0)(h:kB c f):flL f:=by
 have cv:=oZ hc;have kv:=nP cv.k;have hs:=cv.s;have hl:=kv.len;have h1:=h.2.1;have h2:=h.2.2;have h3:=Nw hc h1;refine⟨⟨by have:=h1.1;omega,fun i hi=>?_⟩,by have:=h2.1;omega,fun i hi=>?_⟩
 ·have:=h3.2 i hi
  exact⟨by omega,by omega⟩
 ·have:=(agV h2 (i:=i) (by have:=h2.1;omega)).1
  omega
@[simp high] theorem av9{L:bC}{d:Option Nat}{cf:Nat}{src:Option Nat}{sh:Sh}{mx:Nat}{x y:bB}{g:Nat}{w:Bool}{os:List bI}{keep:c9}{k:cH}{S:St} :
  eb L (⟨d,.app cf src sh mx x y,some (g,w)⟩::os) keep k S=jW w (Vm.look g S.env) (eb L (⟨d,.app cf src sh mx x y,none⟩::os) keep k S) (eb L os keep k (S.put d .undef)):=by
 rw[iy,iy];simp only[bI.run];rcases Vm.look g S.env with _|v
 ·simp[cN,jW]
 ·cases v with
  |bool b=>simp only[jW];cases b==w<;>simp
  |undef=>simp[jW]
  |_=>simp[cN,jW]
theorem auU{α:Type}[Inhabited α]{f:Nat→α}{n i:Nat}(h:i<n):nth ((List.range n).map f) i=f i:=by simp[nth,List.getD,h]
theorem auV{a:Int}{n:Nat}(ha:0≤a)(hn:0<n):∃i:Nat,a.tmod n=i∧i<n:=by
 have h1:=Int.tmod_nonneg (n:Int) ha;have h2:=Int.tmod_lt_of_pos a (b:=(n:Int)) (by omega)
 exact⟨(a.tmod n).toNat,by omega,by omega⟩
set_option maxRecDepth 100000 in
set_option maxHeartbeats 8000000 in
theorem auW{l:List Int}(hl:l.length≤9223372036854775807){cut:Int}(auX:0≤cut∧cut≤255):∃G',bt F 7 [ints l,.int .u8 cut] []=some (.bool true,G'):=by
 suffices h:jq (bt F) 7 [ints l,.int .u8 cut] [] fun v _=>v=.bool true by
  obtain⟨_,G,h,rfl⟩:=h;exact⟨G,h⟩
 refine jV rfl rfl ?_;by_cases h1:l.length≤500
 case neg=>simp +contextual (disch:=omega) [-getElem?_pos,-List.length_eq_zero_iff,-Int.natCast_eq_zero,wrap64,abI,NM,L8,h1]
 obtain⟨c,f,k1,n1,kd,Ig,kN,_⟩:=amr (l:=l) (k:=0) ⟨by omega,hl⟩
 have hz:=Ig.mT;have cv:=oZ hz;have kv:=nP cv.k;have VH:=Ig.small;have JO:=Ig.n;have hs3:=Ig.s;have ji:=kv.n;obtain⟨m,k2,n2,ik,hm⟩:=gU kd 6 (by omega)
 have D1:0≤1+m:=by omega
 obtain⟨q,k3,n3,mV,hq,hqs⟩:=auq ik (c:=c) (by omega) (by omega) (n:=(1+m).toNat) (by omega)
 rw[Int.toNat_of_nonneg D1]at n3;obtain⟨G1,hR⟩:=aqh VH (akp cv.k kN) q (by omega)
 obtain⟨k,hk,IE⟩:=auV (a:=cut) (n:=q.length+1) auX.1 (by omega)
 have jO:cut.tmod ((q.length:Int)+1)=k:=by rw[←hk];rfl
 have Kk:¬ ((q.length:Int)+1=0):=by omega
 by_cases he:sn c f q=0
 case neg =>
  rw[Ay,if_neg he]at hR;simp +contextual (disch:=omega) [-getElem?_pos,-List.length_eq_zero_iff,-Int.natCast_eq_zero,wrap64,abI,NM,L8,h1,Tl,n1,n2,n3,hR,he,jO,Kk]
 rw[Ay,if_pos he]at hR;have ra:=aup he;have hRt:=ra.take (k:=k) (by omega)
 have hRd:=ra.drop (k:=k) (by omega)
 obtain⟨G2,AH⟩:=aqh VH (akp cv.k kN) (q.take k) (by simp;omega)
 rw[Ay,if_pos hRt.e]at AH;have hfk:=akp cv.k (ra.at_ (k:=k) (by omega))
 obtain⟨G3,hR3⟩:=aqh VH hfk (q.drop k) (by simp;omega)
 rw[Ay,if_pos hRd.e]at hR3;have ltk:(q.take k).length=k:=by simp;omega
 have ldk:(q.drop k).length=q.length-k:=by simp
 have e1:hY c f (q.take k) (q.take k).length=hY c f q k:=by rw[ltk,akL (Nat.le_refl _)]
 have e2:hY c (hY c f q k) (q.drop k) (q.drop k).length=hY c f q q.length:=by rw[ldk,akP];congr 1;omega
 have e3:oE c f (q.take k) (q.take k).length++oE c (hY c f q k) (q.drop k) (q.drop k).length=oE c f q q.length:=by rw[ltk,ldk,auo];congr 1;omega
 rw[e1]at AH;rw[e2]at hR3;have hmt:List.take k (q.map Sp.row)=(q.take k).map Sp.row:=List.map_take.symm;have hmd:List.drop k (List.take q.length (q.map Sp.row))=(q.drop k).map Sp.row:=by rw[List.take_of_length_le (by simp),List.map_drop]
 have hSm:=auA (hY c f q q.length) (hY c f q q.length) (auT hz (ra.at_ (Nat.le_refl _)));rw[decide_eq_true rfl]at hSm;have hLk:=auR (oE c f q q.length) (by simp;omega) (fun i hi=>by
  simp only[aul]at hi;rw[oE,auU hi];exact auS ra hi)
 generalize hY c f q q.length=ge at *;generalize hY c f q k=gk at *;generalize oE c f (q.take k) (q.take k).length=A at *;generalize oE c gk (q.drop k) (q.drop k).length=B at *;have e4:A.map Ps.row++B.map Ps.row=(oE c f q q.length).map Ps.row:=by rw[←List.map_append,e3]
 have Nb:A.length+B.length≤1000:=by have:=congrArg List.length e3;simp at this;omega
 generalize q.take k=qt at *;generalize q.drop k=qd at *;have hL0:0<q.length:=by omega
 have hw0:=hqs 0 (by omega)
 obtain⟨a,ha⟩:∃a,(nth q 0).a=a:=⟨_,rfl⟩;have Mq:(a.length:Int)=c.r.n:=by rw[←ha];exact hw0.1.1
 have Mr:fN a 30:=by rw[←ha];exact hw0.2.1
 have NO:=arN cv.k JO;have hsd:m8 (dL c.r) []:=⟨rfl,fun i hi=>absurd hi (by simp)⟩
 obtain⟨G4,hSt⟩:=ajB (dL c.r) VH [];rw[show pE (dL c.r) []=.tuple [fl (lD (dL c.r) []),i64 0] by unfold pE;rw[show pD (dL c.r) []=0 by unfold pD;rw[if_neg (by omega),if_pos hsd]];rfl]at hSt
 have fH:=auO cv.k JO Mq Mr;obtain⟨tt,G5,hSp⟩:=NF (c:=dL c.r) VH (ajA (dL c.r) []) (fI a);rw[sW,if_pos fH]at hSp;obtain⟨uu,t2,G6,arT,huu⟩:=auK VH cv.k JO Mq Mr rfl;have YT:=auP (ako fH);rw[arM]at hSt hSp YT;have hI:=aui (zV (dL c.r) ⟨0,[],List.replicate c.r.l.length []⟩ (fI a)).lf (cB (dL c.r) (fI a) ⟨0,[],List.replicate c.r.l.length []⟩ c.r.n.toNat).arr (by
  have:=((ako fH).vc (Nat.le_refl _)).ll;have e:(zV (dL c.r) (lD (dL c.r) []) (fI a)).lf.length=c.r.n.toNat:=this;rw[arM]at e;omega)
 rw[decide_eq_true YT]at hI;generalize (cB (dL c.r) (fI a) ⟨0,[],List.replicate c.r.l.length []⟩ c.r.n.toNat).arr=arr at *;generalize zV (dL c.r) ⟨0,[],List.replicate c.r.l.length []⟩ (fI a)=P at *;generalize wo (dL c.r) ⟨0,[],List.replicate c.r.l.length []⟩ (fI a)=gg at *;generalize List.replicate c.r.l.length ([]:List Int)=W at *;simp only[cs,Cs.row,rJ,rH,tY,fl,Fl.row,sv,Sp.row,ints,List.map_nil]at hSt hSp arT
 simp (config:={ maxSteps:=2000000 }) +contextual (disch:=omega) [-getElem?_pos,-List.length_eq_zero_iff,-Int.natCast_eq_zero,wrap64,abI,NM,L8,h1,Tl,n1,n2,n3,hR,he,jO,Kk,hmt,hmd,AH,hR3,hSm,e4,hLk,bo (l:=q),hSt,ha,hSp,arT,huu,hI]
end Go.Proofs.YtmpikpodpgnjhaaGreat
namespace Go.Proofs.YtmpikpodpgnjhaaGreat
set_option linter.all false
open Go.Vm Go.Shelf Go.RowKit Go.Lib
theorem aiF{w:World}{b:Nat}{c:Array Value}{e:TypeId}{d:Array Int}(hb:w.heap[b]?=some (.cells c e (0,0))) :
  (Go.Sort.putRow (Value.int .i64) w b 0 d).heap[b]?=some (.cells (Go.Sort.putCells (Value.int .i64) 0 d c) e (0,0)):=by
 simp[Go.Sort.putRow,Go.Sort.mapBlock,Array.getElem?_modify,hb,Go.Sort.onCells]
theorem aiG{w:World}{b i:Nat}{d:Array Int}(h:i≠b):(Go.Sort.putRow (Value.int .i64) w b 0 d).heap[i]?=w.heap[i]?:=by
 simp[Go.Sort.putRow,Go.Sort.mapBlock,Array.getElem?_modify,Ne.symm h]
theorem HJ{c:Array Value}{d:Array Int}{j:Nat}:(Go.Sort.putCells (Value.int .i64) 0 d c)[j]?=if j<d.size then (c[j]?).map fun _=>.int .i64 d[j]! else c[j]?:=by
 simp only[Go.Sort.putCells,Array.getElem?_mapIdx,Nat.zero_le,true_and,Nat.zero_add,Nat.sub_zero];split
 ·rfl
 ·cases c[j]?<;>rfl
theorem holds_of{w:World}{b:Nat}{c:Array Value}{e:TypeId}{zs:List Int}(hb:w.heap[b]?=some (.cells c e (0,0)))(hc:∀(j:Nat) z,zs[j]?=some z→c[j]?=some (.int .i64 z)) :
  Go.Sort.Holds (Value.int .i64) w b 0 zs.toArray:=by
 intro j hj;have sd:j<zs.length:=by simpa using hj
 have h1:=hc j zs[j] (List.getElem?_eq_getElem sd);constructor
 ·simp only[World.cell?,hb,Nat.zero_add,h1]
  simp[sd]
 ·simp[World.frozen?,hb]
theorem US{w w':World}{b:Nat}{c:Array Value}{e:TypeId}{d:Array Int}{n:Nat}{os:Array Obj}(hb:w.heap[b]?=some (.cells c e (0,0)))(hw:w'=Go.Sort.grow (Go.Sort.putRow (Value.int .i64) (Go.Sort.ahead w n) b 0 d) os) :
  Written w w' b (Go.Sort.putCells (Value.int .i64) 0 d c) e:=by
 subst hw;have bG:b<w.heap.size:=(Array.getElem?_eq_some_iff.1 hb).1;have hs:(Go.Sort.putRow (Value.int .i64) (Go.Sort.ahead w n) b 0 d).heap.size=w.heap.size:=by simp
 refine⟨rfl,rfl,rfl,by simp,fun i hi tQ=>?_,?_⟩
 ·rw[Go.Sort.heap_grow_old _ _ (by rw[hs];exact tQ),aiG hi];rfl
 ·rw[Go.Sort.heap_grow_old _ _ (by rw[hs];exact bG)]
  exact aiF (w:=Go.Sort.ahead w n) hb
def kf:Int→List Int→List Int
 |_,[]=>[]
 |p,a::l=>if a=p then kf a l else a::kf a l
theorem Nc:∀(x:Int) (l:List Int),dedup (x::l)=x::kf x l
 |_,[]=>rfl
 |x,y::r=>by
  have ih:=Nc y r;simp only[dedup,kf];by_cases h:x=y
  ·subst h
   simp[ih]
  ·have h':(x==y)=false:=by simpa using h
   have h2:¬y=x:=fun e=>h e.symm;simp[h',h2,ih]
theorem UT(a:Int):∀(p:Int) (l:List Int),kf p (l++[a])=kf p l++(if a=l.getLastD p then [] else [a])
 |p,[]=>by simp[kf]
 |p,b::l=>by
  have ih:=UT a b l;have e:(b::l).getLastD p=l.getLastD b:=by cases l<;>rfl
  rw[e,List.cons_append,kf,kf,ih];split<;>simp
theorem UU{zs:List Int}:∀{m:Nat},m≤zs.length→compactUpTo zs.toArray m=dedup (zs.take m)
 |0,_=>by simp[compactUpTo,dedup]
 |m+1,h=>by
  have ih:=UU (zs:=zs) (m:=m) (by omega)
  have e:compactUpTo zs.toArray (m+1)=compactUpTo zs.toArray m++(if keeps zs.toArray m then [zs.toArray[m]!] else []):=by
   simp only[compactUpTo,List.range_succ,List.filter_append,List.map_append];congr 1;by_cases hk:keeps zs.toArray m=true<;>simp[hk]
  have hm:zs.toArray[m]! = nth zs m:=by simp[nth,h]
  rw[e,ih,hm,List.take_add_one,bo h];cases m with
  |zero =>
   rw[if_pos (keeps_lt_one _ 0 (by omega))]
   simp[dedup]
  |succ m =>
   have sD:zs.toArray[m]! = nth zs m:=by simp[nth,show m<zs.length by omega]
   cases hz:zs with
   |nil=>rw[hz]at h;simp at h
   |cons x r =>
    rw[hz]at h hm sD;simp only[List.length_cons]at h;have UR:(r.take m).getLastD x=nth (x::r) m:=by
     rw[List.getLastD_eq_getLast?,List.getLast?_take];cases m with
     |zero=>simp[nth]
     |succ m =>
      have:m<r.length:=by omega
      simp[nth,this]
    simp only[List.take_succ_cons,Option.toList_some];rw[Nc,List.cons_append,List.cons_append,Nc,UT,UR];by_cases hk:nth (x::r) (m+1)=nth (x::r) m
    ·rw[keeps_neg (by omega) (by simp only[Nat.add_sub_cancel];rw[hm,sD,hk])]
     simp[hk]
    ·rw[keeps_pos (by simp only[Nat.add_sub_cancel];rw[hm,sD];exact hk)]
     simp[hk]
theorem aiH(zs:List Int):compactUpTo zs.toArray zs.toArray.size=dedup zs:=by
 have:=UU (zs:=zs) (m:=zs.length) (Nat.le_refl _)
 rwa [List.take_length]at this
theorem aiI:pU Tryz.prog 0 229 where
 fn:=⟨_,Tryz.func229,by kernel_rfl,by kernel_rfl⟩
 run:=fun w b cap zs c e hb hc h1 h2 h3=>by
  have h3:zs.length≤4294967296:=h3;have bG:b<w.heap.size:=(Array.getElem?_eq_some_iff.1 hb).1;refine(AnyM.slices_Sort_int Tryz.agG b 0 cap zs w (holds_of hb hc) bG (by omega)).mono fun r w' ⟨hr,n,os,hw⟩=>?_
  have hl:=(xd zs).length_eq;rw[←ZP]at hw;refine⟨hr,_,US hb hw,by simp[Go.Sort.putCells],fun j z hz=>?_,fun j hj=>?_⟩
  ·have Nd:(mH zs)[j]?=some z:=hz
   have hj:=eZ Nd;rw[HJ,if_pos (by simpa using hj)]
   have Ai:j<c.size:=by omega
   simp only[Array.getElem?_eq_getElem Ai,Option.map_some];congr 2;rw[List.getElem?_eq_getElem hj]at Nd;cases Nd;simp[hj]
  ·rw[HJ,if_neg (by simp;omega)]
theorem aiJ:pU Tryz.prog 1 230 where
 fn:=⟨_,Tryz.func230,by kernel_rfl,by kernel_rfl⟩
 run:=fun w b cap zs c e hb hc h1 h2 h3=>by
  have h3:zs.length≤4294967296:=h3;have bG:b<w.heap.size:=(Array.getElem?_eq_some_iff.1 hb).1;refine(AnyE.slices_Compact Tryz.agI (Value.int .i64) (fun _=>rfl) (EqlAt.intD _ _ .i64) (NeqAt.intD _ _ .i64) 0 Tryz.zeroValue3 b 0 cap zs.toArray w (holds_of hb hc) (by simp;omega) (by simpa using h1)).mono fun r w' ⟨hr,n,hw⟩=>?_
  rw[aiH]at hr hw;have hd:=A2 zs;have ru:w'=Go.Sort.grow (Go.Sort.putRow (Value.int .i64) (Go.Sort.ahead w n) b 0 (rU 1 zs).toArray) #[]:=by
   rw[Go.Sort.grow_empty];exact hw
  refine⟨hr,_,US hb ru,by simp[Go.Sort.putCells],fun j z hz=>?_,fun j hj=>?_⟩
  ·have hj:=eZ hz
   have hl:=Kw 1 zs;rw[HJ,if_pos (by simpa using hj)]
   have Ai:j<c.size:=by omega
   simp only[Array.getElem?_eq_getElem Ai,Option.map_some];congr 2;rw[List.getElem?_eq_getElem hj]at hz;cases hz;simp[hj]
  ·have hl:=Kw 1 zs
   rw[HJ,if_neg (by simp;omega)]
theorem aiK:Kx Tryz.prog 146 where
 fn:=⟨_,Tryz.func146,by kernel_rfl,by kernel_rfl⟩
 run:=fun w n h0 hl=>by
  obtain⟨k,rfl⟩:=Int.eq_ofNat_of_zero_le h0;have hl:(k:Int)≤4294967296:=hl;have hi:(Tryz.prog.info? 3).map (fun i=>(i.zero,i.size,i.bytes))=some (some (.int .i64 0),1,8):=by kernel_rfl
  obtain⟨i0,hi,he⟩:=Option.map_eq_some_iff.1 hi;simp only[Prod.mk.injEq]at he;obtain⟨hz,hs,hb⟩:=he;by_cases hk:k=0
  ·subst hk
   exact(Any8.slices_Grow_room Tryz.Tk none 0 0 0 w (by omega) (by omega) (by omega) (by omega)).mono fun r w' h=>.inl h
  ·refine(Any8.slices_Grow_grow Tryz.Tk i0 (.int .i64 0) hi hz (by omega) none 0 0 k [] w (by omega) (by omega) (by rw[hb];omega) (by omega) (by simp) (fun _=>rfl) (fun a h=>by cases h)).mono fun r w' h=>?_
   obtain⟨rfl,rfl⟩:=h;exact .inr ⟨_,_,_,rfl,rfl,rfl,rfl,rfl,by
    have:=grownCap_ge w (0+k) 0 (Tryz.Tj.t 25);simp[Builtin.zeroCells,Value.cells];omega⟩
theorem aiL(f k:Nat)(h:Go.Vm.look f bS=some k):pU Tryz.prog k f:=by
 simp only[bS,Go.Vm.look]at h;by_cases h0:(146==f)=true
 ·rw[h0]at h
  cases h;have:=eq_of_beq h0;subst this;exact aiK
 rw[Bool.eq_false_iff.2 h0]at h;by_cases h1:(229==f)=true
 ·rw[h1]at h
  cases h;have:=eq_of_beq h1;subst this;exact aiI
 ·rw[Bool.eq_false_iff.2 h1]at h
  by_cases h2:(230==f)=true
  ·rw[h2]at h
   cases h;have:=eq_of_beq h2;subst this;exact aiJ
  ·rw[Bool.eq_false_iff.2 h2]at h
   cases h
end Go.Proofs.YtmpikpodpgnjhaaGreat
namespace Go.Proofs.YtmpikpodpgnjhaaGreat
set_option linter.all false
open Go.Vm
open Go.ChangeShapes Go.WideShapes Go.ChangeAt Go.RowKit
theorem Tryz.own:ownKnob Tryz.prog.godebug=none:=by kernel_rfl
theorem Tryz.laidOut:laidOutB Tryz.prog=true:=by kernel_rfl
theorem aiM:oN Tryz.prog (bt F):=YX (CV aiL Tryz.checked.mixed agE)
end Go.Proofs.YtmpikpodpgnjhaaGreat

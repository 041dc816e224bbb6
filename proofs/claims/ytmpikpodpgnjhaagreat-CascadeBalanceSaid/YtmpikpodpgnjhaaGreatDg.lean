/- Parts of the proof, joined: Flo3, Sne1, Cdm1, Blc1, Blc2, Blc3, Cbl1, Cwb1, Mut1, End0. -/
import Derived.Test.YtmpikpodpgnjhaaGreatDf
import Derived.Test.YtmpikpodpgnjhaaGreatSh
import Derived.Test.YtmpikpodpgnjhaaGreatQV
import Derived.Test.YtmpikpodpgnjhaaGreatVmN
import Derived.Test.YtmpikpodpgnjhaaGreatRows
namespace Go.Proofs.YtmpikpodpgnjhaaGreat
set_option linter.all false
open Go.Vm
attribute [local simp] eU eV eS eT
theorem amp{l:List Int}{k:Nat}(hd:eM l k){c:Cs}(hc:Cm c){s:List Ds}(hs:m8 c s):∃f k',bt F 53 [.bO 0 0,cs c,tY s] [dk l k]=some (fl f,[dk l k'])∧eM l k'∧kB c f∧hB c f 10:=by
 suffices h:∀Q:V→List aW→Prop,(∀f k',eM l k'→kB c f→hB c f 10→Q (fl f) [dk l k'])→jq (bt F) 53 [.bO 0 0,cs c,tY s] [dk l k] Q by
  obtain⟨_,_,h,f,k',rfl,rfl,h1⟩:=h (fun v G=>∃f k',v=fl f∧G=[dk l k']∧eM l k'∧kB c f∧hB c f 10) fun f k' a b d=>⟨f,k',rfl,rfl,a,b,d⟩;exact⟨f,k',h,h1⟩
 intro Q hQ;refine jV rfl rfl ?_;have cv:=oZ hc.mT;have kv:=nP cv.k;have VH:=hc.small;have JO:=hc.n;obtain⟨G1,j8⟩:=apM c VH s (Nw hc.mT hs);have h0:pE c s=.tuple [fl (lD c s),i64 0]:=by unfold pE;rw[show pD c s=0 by unfold pD;rw[if_neg (by have:=hc.mT;omega),if_pos hs]];rfl
 rw[h0]at j8;obtain⟨m,k1,n1,kd,hm⟩:=gU hd 6 (by omega)
 have NR:=(VF hc.mT).2 hs;have Jf:=amo (c:=c) (s:=s);generalize lD c s=f0 at j8 NR Jf;simp (disch:=omega) [wrap64,Ru,j8,n1];refine go_loop (fun y:Fl×Int×Nat=>aoV (.bO 0 0) y.2.1 c.row [i64 0,.aK,.aK] y.1.row [dk l y.2.2])
  (fun y=>kB c y.1∧(0≤y.2.1∧y.2.1≤10)∧eM l y.2.2∧hB c y.1 (10-y.2.1)) (fun y=>y.2.1.toNat) (f0,m,k1) rfl (by simp) ⟨NR,by simp only;omega,kd,Jh cv.k Jf (by simp only;omega)⟩ ?_
 rintro⟨f,x,k⟩ ⟨h1,h2,hd,hh⟩;simp only at h1 h2 hd hh;simp (disch:=omega) [wrap64,aaC];refine b9 (fun h3=>?_) (fun h3=>?_)
 ·obtain⟨p,k2,n2,ik,hp,ha,hb,uF⟩:=ajF hd (c:=c) (by have:=kv.n;omega) (by have:=cv.s;omega)
  have Xj:=cv.s;have mn:p.a.length≤1000∧p.b.length≤1000∧p.c.length≤1000:=by have:=hp;unfold oq at this;omega
  obtain⟨G2,hS⟩:=apU VH (akp cv.k h1) mn;by_cases he:ot c f p=0
  ·rw[sW,if_pos he]at hS
   have AN:=(ako he).fl;have Dc:=Jh cv.k (amn (ako he) (by omega) hh).1 (show 10-x+1≤10-(x-1) by omega)
   generalize wo c f p=f2 at hS AN Dc;generalize zV c f p=pp at hS;simp (disch:=omega) [wrap64,n2,hS];exact cc (f2,x-1,k2) (by simp) ⟨AN,by simp only;omega,ik,Dc⟩ (by simp only;omega)
  ·rw[sW,if_neg he]at hS
   simp (disch:=omega) [wrap64,n2,hS,decide_eq_false he];exact cc (f,x-1,k2) (by simp) ⟨h1,by simp only;omega,ik,Jh cv.k hh (by simp only;omega)⟩ (by simp only;omega)
 ·exact hQ f k hd h1 (Jh cv.k hh (by omega))
theorem amr{l:List Int}{k:Nat}(hd:eM l k):∃c f k',bt F 15 [.bO 0 0] [dk l k]=some (.tuple [cs c,fl f],[dk l k'])∧eM l k'∧Cm c∧kB c f∧hB c f 10:=by
 suffices h:∀Q:V→List aW→Prop,(∀c f k',eM l k'→Cm c→kB c f→hB c f 10→Q (.tuple [cs c,fl f]) [dk l k'])→jq (bt F) 15 [.bO 0 0] [dk l k] Q by
  obtain⟨_,_,h,c,f,k',rfl,rfl,h1⟩:=h (fun v G=>∃c f k',v=.tuple [cs c,fl f]∧G=[dk l k']∧eM l k'∧Cm c∧kB c f∧hB c f 10) fun c f k' a b d e=>⟨c,f,k',rfl,rfl,a,b,d,e⟩;exact⟨c,f,k',h,h1⟩
 intro Q hQ;refine jV rfl rfl ?_;obtain⟨c,s,k1,n1,kd,hc,hs⟩:=apN hd;obtain⟨f,k2,n2,ik,hf,hb⟩:=amp kd hc hs;simp[wrap64,Re,n1,n2];exact hQ c f k2 ik hc hf hb
abbrev EH:Rc:=⟨[0,1],1⟩
abbrev gz:Cs:=⟨⟨2,[⟨0,1,EH⟩]⟩,[]⟩
theorem EI:e8 EH=0:=by
 unfold e8;rw[if_neg (by decide),if_neg (by decide),if_pos,if_pos (by decide)]
 intro i hi;have:i=0∨i=1:=by simp at hi;omega
 rcases this with rfl|rfl<;>decide
theorem akv:jJ gz.r=0:=by
 unfold jJ;rw[if_neg (by decide)]
 show(if lE gz.r 0=0 then (0:Int) else lE gz.r 0)=0
 have:lE gz.r 0=0:=by
  unfold lE;simp only;rw[if_pos (by decide),if_neg (by decide),if_neg (by decide)]
  exact EI
 rw[if_pos this]
theorem H9:gu gz=0:=by
 unfold gu;rw[if_neg (fun g=>g akv),if_neg (by decide),if_neg (by decide)]
 rfl
theorem Ia:oo gz.r:=⟨by decide,fun i hi=>by
 have:i=0:=by simp at hi;omega
 subst this
 decide⟩
theorem NL{t:Int}{p:List Int}(h:p.length≤10):ua ⟨t,[],[p]⟩:=fun i=>by
 cases i with
 |zero=>show p.length≤_;omega
 |succ i=>exact Nat.zero_le _
theorem Ib:∀p:List Int,p=[]∨p=[7]→iv EH p:=fun p h=>by
 rcases h with rfl|rfl
 ·exact⟨by decide,by decide,fun i hi=>by simp at hi⟩
 ·refine⟨by decide,by decide,fun i hi=>?_⟩
  have:i=0:=by simp at hi;omega
  subst this;decide
theorem akw:gD EH [] 7=0:=by
 unfold gD;rw[if_neg (fun g=>g EI),if_pos (Ib _ (.inl rfl)),if_pos];refine⟨by decide,fun i hi=>?_⟩
 have:i=0∨i=1:=by simp at hi;omega
 rcases this with rfl|rfl<;>decide
theorem akx:gD EH [7] 0=0:=by
 unfold gD;rw[if_neg (fun g=>g EI),if_pos (Ib _ (.inr rfl)),if_pos];refine⟨by decide,fun i hi=>?_⟩
 have:i=0∨i=1:=by simp at hi;omega
 rcases this with rfl|rfl<;>decide
abbrev wy:Sp:=⟨[7,0],[],[]⟩
abbrev wz:Sp:=⟨[0,0],[],[]⟩
abbrev uX:Fl:=⟨0,[],[[]]⟩
abbrev uc:Fl:=⟨1,[],[[7]]⟩
theorem aky:kB gz uX:=⟨by decide,⟨rfl,by simp⟩,rfl,fun i hi=>by
 have:i=0:=by simp at hi;omega
 subst this;exact⟨EI,Ib _ (.inl rfl)⟩⟩
theorem V9:kB gz uc:=⟨by decide,⟨rfl,by simp⟩,rfl,fun i hi=>by
 have:i=0:=by simp at hi;omega
 subst this;exact⟨EI,Ib _ (.inr rfl)⟩⟩
theorem xD(k:Int):me gz.s k=none:=rfl
theorem Ic:lu gz.r.l ((0:Nat):Int)=some 0:=rfl
theorem Ie:lu gz.r.l ((1:Nat):Int)=none:=rfl
theorem Wa:cB gz wy uX 1=⟨[7,0],[],[[7]],[],[7],[0]⟩:=by
 show vS gz wy ⟨[7,0],[],[[]],[],[],[]⟩ 0=_;unfold vS vL vD fG;rw[xD,Ic];rfl
theorem Wb:cB gz wy uX 2=⟨[7,0],[],[[7]],[],[7,0],[0]⟩:=by
 show vS gz wy (cB gz wy uX 1) 1=_;rw[Wa];unfold vS vL vD fG;rw[xD,Ie];rfl
theorem Wc:cB gz wz uc 1=⟨[0,7],[],[[]],[],[0],[7]⟩:=by
 show vS gz wz ⟨[0,0],[],[[7]],[],[],[]⟩ 0=_;unfold vS vL vD fG;rw[xD,Ic];rfl
theorem Wd:cB gz wz uc 2=⟨[0,7],[],[[]],[],[0,7],[7]⟩:=by
 show vS gz wz (cB gz wz uc 1) 1=_;rw[Wc];unfold vS vL vD fG;rw[xD,Ie];rfl
theorem We{l:List Int}(h:∀x∈l,x=0∨x=7):fN l 1073741824:=fun i hi=>by
 have:=h _ (rZ hi);omega
theorem akz:ot gz uX wy=0:=by
 unfold ot;have hr:o0 gz uX=0:=by unfold o0;rw[if_neg (fun g=>g H9),if_pos aky]
 rw[if_neg (fun g=>g hr)];unfold jK;rw[if_pos (by decide),if_pos (We (by simp)),if_neg (by decide)]
 refine rC fun k _ hk=>?_;have:k=0∨k=1:=by have:gz.r.n.toNat=2:=rfl;omega
 rcases this with rfl|rfl
 ·unfold vE lO nQ fG
  rw[xD,Ic];exact akw
 ·unfold vE lO nQ fG
  rw[Wa,xD,Ie];rfl
theorem akA:ot gz uc wz=0:=by
 unfold ot;have hr:o0 gz uc=0:=by unfold o0;rw[if_neg (fun g=>g H9),if_pos V9]
 rw[if_neg (fun g=>g hr)];unfold jK;rw[if_pos (by decide),if_pos (We (by simp)),if_neg (by decide)]
 refine rC fun k _ hk=>?_;have:k=0∨k=1:=by have:gz.r.n.toNat=2:=rfl;omega
 rcases this with rfl|rfl
 ·unfold vE lO nQ fG
  rw[xD,Ic];exact akx
 ·unfold vE lO nQ fG
  rw[Wc,xD,Ie];rfl
abbrev cw:V:=.agg [i64 2,.slice none 4 [[i64 0,i64 1,.slice none 1 [[i64 0],[i64 1]],i64 1]],.slice none 10 []]
theorem NM(G:List aW):bt F 12 [] G=some (.bool true,G) :=
 cg rfl rfl (by
  obtain⟨G1,h1⟩:=ajB gz Ia [];obtain⟨t2,G2,h2⟩:=NF Ia (f:=uX) (NL (by decide)) wy
  obtain⟨t3,G3,h3⟩:=NF Ia (f:=uc) (NL (by decide)) wz
  have h4:=ajo gz Ia uc (NL (by decide))
  rw[decide_eq_true ⟨H9,V9⟩]at h4;rw[show pE gz []=.tuple [fl uX,i64 0] by unfold pE;rw[show pD gz []=0 by unfold pD;rw[if_neg (fun g=>g H9),if_pos ⟨rfl,by simp⟩]];rfl]at h1
  rw[sW,if_pos akz,show wo gz uX wy=uc by unfold wo;rw[show gz.r.n.toNat=2 from rfl,Wb];rfl,show zV gz uX wy=⟨[],[7,0],[0]⟩ by unfold zV;rw[show gz.r.n.toNat=2 from rfl,Wb]]at h2
  rw[sW,if_pos akA,show wo gz uc wz=⟨2,[],[[]]⟩ by unfold wo;rw[show gz.r.n.toNat=2 from rfl,Wd];rfl,show zV gz uc wz=⟨[],[0,7],[7]⟩ by unfold zV;rw[show gz.r.n.toNat=2 from rfl,Wd]]at h3
  replace h1:bt F 31 [cw,.slice none 4 []] []=some (.tuple [.agg [i64 0,.slice none 4 [],.slice none 1 [[.slice none 1 []]]],i64 0],G1):=h1;replace h2:bt F 17 [cw,.agg [i64 0,.slice none 4 [],.slice none 1 [[.slice none 1 []]]],.agg [.slice none 1 [[i64 7],[i64 0]],.slice none 1 [],.slice none 1 []]] [] =
   some (.tuple [.agg [i64 1,.slice none 4 [],.slice none 1 [[.slice none 1 [[i64 7]]]]],.agg [.slice none 7 [],.slice none 1 [[i64 7],[i64 0]],.slice none 1 [[i64 0]]],i64 0],G2):=h2
  replace h3:bt F 17 [cw,.agg [i64 1,.slice none 4 [],.slice none 1 [[.slice none 1 [[i64 7]]]]],.agg [.slice none 1 [[i64 0],[i64 0]],.slice none 1 [],.slice none 1 []]] [] =
   some (.tuple [.agg [i64 2,.slice none 4 [],.slice none 1 [[.slice none 1 []]]],.agg [.slice none 7 [],.slice none 1 [[i64 0],[i64 7]],.slice none 1 [[i64 7]]],i64 0],G3):=h3
  replace h4:∀G,bt F 28 [cw,.agg [i64 1,.slice none 4 [],.slice none 1 [[.slice none 1 [[i64 7]]]]]] G=some (.bool true,G):=h4;simp[wrap64,KA,h1,h2,h3,h4])
end Go.Proofs.YtmpikpodpgnjhaaGreat
namespace Go.Proofs.YtmpikpodpgnjhaaGreat
set_option linter.all false
open Go.Vm
noncomputable abbrev fin(c:Cs)(p:Sp)(f:Fl):Co:=cB c p f c.r.n.toNat
theorem akB{c:Cs}{p:Sp}{f:Fl}(h:Pa c f p){k:Nat}(hk:k≤c.r.n.toNat){m:Nat}(hm:m<(cB c p f k).cm.length):nth (fin c p f).cm m=nth (cB c p f k).cm m:=by
 have hc:=oZ h.c0;have hl:m<(fin c p f).cm.length:=by
  have e:=(NG hc p f).2;have:=(zW hc p f k).l.1;rw[show(fin c p f).cm.length=c.r.l.length from e];omega
 obtain⟨a,_,a2,a3⟩:=(BR h (Nat.le_refl _)).link m hl;obtain⟨b,_,b2,b3⟩:=(BR h hk).link m hm;obtain rfl:a=b:=by omega
 rw[a3.o,b3.o]
theorem Wf{c:Cs}{l l':List Int}{j:Int}:∀{m:Nat},(∀i,i<m→nth l i=nth l' i)→jL c l j m=jL c l' j m
 |0,_=>rfl
 |m+1,h=>by
  simp only[jL];rw[Wf fun i hi=>h i (by omega),h m (by omega)]
theorem Wg{c:Cs}{l:List Int}{j:Int}{m:Nat}:∀{n:Nat},(∀i,m≤i→i<m+n→(nth c.r.l i).t≠j)→jL c l j (m+n)=jL c l j m
 |0,_=>rfl
 |n+1,h=>by
  rw[show m+(n+1)=(m+n)+1 by omega]
  simp only[jL];rw[Wg fun i a b=>h i a (by omega),if_neg (h (m+n) (by omega) (by omega)),Int.add_zero]
theorem Wh{c:Cs}{l:List Int}{j:Int}:∀{m:Nat},(∀i,i<m→0≤nth l i∧nth l i≤1125899906842624)→0≤jL c l j m∧jL c l j m≤1125899906842624*m
 |0,_=>by simp[jL]
 |m+1,h=>by
  have:=Wh (c:=c) (j:=j) fun i hi=>h i (Nat.lt_succ_of_lt hi);have:=h m (by omega)
  simp only[jL];split<;>omega
theorem akC{c:Cs}{p:Sp}{f:Fl}(h:Pa c f p){k:Nat}(hk:k<c.r.n.toNat):nth (cB c p f k).arr k=nth p.a k+jL c (fin c p f).cm k c.r.l.length:=by
 have hc:=oZ h.c0;have hv:=h.vc (k:=k) (by omega)
 have ho:=(zW hc p f k).l;rw[(BR h (by omega)).arr k (by have:=hv.xw;omega),Wf (l:=(cB c p f k).cm) (l':=(fin c p f).cm) fun i hi=>(akB h (by omega) hi).symm]
 obtain⟨d,hd⟩:∃d,c.r.l.length=(cB c p f k).cm.length+d:=⟨c.r.l.length-(cB c p f k).cm.length,by have:=ho.1;omega⟩
 rw[hd,Wg fun i a b=>?_];have h1:=ho.2.2 i a (by omega)
 have h2:=((nP hc.k).link (i:=i) (by omega)).1
 have h1:(k:Int)≤(nth c.r.l i).f:=h1;omega
end Go.Proofs.YtmpikpodpgnjhaaGreat
namespace Go.Proofs.YtmpikpodpgnjhaaGreat
set_option linter.all false
open Go.Vm
attribute [local simp] eU eV eS eT
theorem ash{l:List Int}{m:Int}:(l.any fun x => !decide (0≤x∧x≤m)) = !decide (fN l m):=by
 by_cases h:fN l m
 ·rw[decide_eq_true h]
  refine List.any_eq_false.2 fun x hx=>?_;have:=aj5.1 h x hx;simp;exact this
 ·rw[decide_eq_false h]
  cases hb:l.any fun x => !decide (0≤x∧x≤m) with
  |true=>rfl
  |false =>
   refine absurd (fun i hi=>?_) h;have:=List.any_eq_false.1 hb (nth l i) (rZ hi);simpa using this
theorem apA{a b:List Int}(h:a.length=b.length)(e:∀i,i<a.length→nth a i=nth b i):a=b:=by
 refine List.ext_getElem h fun i h1 h2=>?_;have:=e i h1;simpa [nth,h1,h2] using this
theorem asi(a b:List Int)(ha:a.length≤17592186044416)(G:List aW):bt F 84 [ints a,ints b] G=some (.bool (decide (a=b)),G) :=
 cg rfl rfl (by
  generalize hW:decide (a=b)=W;by_cases h1:a.length=b.length
  case neg =>
   have nL:¬ (a.length:Int)=b.length:=by omega
   simp (disch:=omega) [-getElem?_pos,wrap64,aiw,nL];rw[←hW,decide_eq_false fun h=>h1 (by rw[h])]
  have nL:(a.length:Int)=b.length:=by omega
  simp (disch:=omega) [-getElem?_pos,wrap64,aiw,nL];refine go_loop (fun i:Nat=>aqU (ints a) (ints b) b.length i G) (fun i=>i≤a.length∧∀j,j<i→nth a j=nth b j) (fun i=>a.length-i) 0 rfl (by simp) (by simp) ?_
  rintro i ⟨hi,hj⟩;simp (disch:=omega) [-getElem?_pos,wrap64,ao2];refine b9 (fun h5=>?_) (fun h5=>?_)
  ·have h5:i<b.length:=by omega
   have h6:i<a.length:=by omega
   by_cases h7:nth a i=nth b i
   ·simp (disch:=omega) [-getElem?_pos,wrap64,eA (l:=a),eA (l:=b),h7]
    exact cc (i+1) (by simp) ⟨by omega,fun j EZ=>by
     by_cases g:j=i
     ·rw[g];exact h7
     ·exact hj j (by omega)⟩ (by omega)
   ·simp (disch:=omega) [-getElem?_pos,wrap64,eA (l:=a),eA (l:=b),h7]
    rw[←hW,decide_eq_false fun h=>h7 (by rw[h])]
  ·rw[←hW,decide_eq_true (apA h1 fun j EZ=>hj j (by omega))])
theorem asj(x:Int)(G:List aW):bt F 90 [i64 x] G=some (.bool (!decide (0≤x∧x≤274877906944)),G) :=
 cg rfl rfl (by
  by_cases h1:x<0
  ·rw[decide_eq_false (by omega)]
   simp[wrap64,abH,h1]
  ·by_cases h2:274877906944<x
   ·rw[decide_eq_false (by omega)]
    simp[wrap64,abH,h1,h2]
   ·rw[decide_eq_true (by omega)]
    simp[wrap64,abH,h1,h2])
def Kz(c:Cs)(p:Sp)(x:Ps)(j:Nat):Int:=nth p.a j+jL c x.cm j c.r.l.length
def Hz(c:Cs)(f g:Fl)(x:Ps)(i:Nat):Prop :=
 sm (nth g.w i) (nth g.w i).length-sm (nth f.w i) (nth f.w i).length=(nth c.r.l i).r.den*(nth x.lf (nth c.r.l i).f.toNat-nth x.cm i)
noncomputable def C0(c:Cs)(f g:Fl)(p:Sp)(x:Ps)(i:Nat):Prop:=aiT (nth f.d i) (nth g.d i) (nth x.re i)∧(nth x.re i).inf=Kz c p x (nth c.s i).n.toNat
noncomputable def MW(c:Cs)(p:Sp)(x:Ps)(j:Nat):Int:=match me c.s j with
 |none=>Kz c p x j
 |some i=>rL (nth x.re i)
structure blL(c:Cs)(f g:Fl)(p:Sp)(x:Ps):Prop where
 c0:gu c=0
 f0:kB c f
 g0:kB c g
 p0:oq c p
 re:x.re.length=c.s.length
 lf:(x.lf.length:Int)=c.r.n
 cm:x.cm.length=c.r.l.length
structure HL(c:Cs)(f g:Fl)(p:Sp)(x:Ps):Prop where
 l:blL c f g p x
 all:fN (p.a++x.lf++x.cm) 274877906944
 lk:∀i,i<c.r.l.length→Hz c f g x i
 si:∀i,i<c.s.length→C0 c f g p x i
 le:∀j,j<c.r.n.toNat→nth x.lf j=MW c p x j
noncomputable instance {c:Cs} {f g:Fl} {p:Sp} {x:Ps}:Decidable (HL c f g p x):=Classical.propDecidable _
structure Bn(p:Sp)(x:Ps):Prop where
 a:∀j,j<p.a.length→0≤nth p.a j∧nth p.a j≤274877906944
 lf:∀j,j<x.lf.length→0≤nth x.lf j∧nth x.lf j≤274877906944
 cm:∀j,j<x.cm.length→0≤nth x.cm j∧nth x.cm j≤274877906944
theorem apB{p:Sp}{x:Ps}(h:fN (p.a++x.lf++x.cm) 274877906944):Bn p x:=by
 rw[AZ,AZ]at h;exact⟨h.1.1,h.1.2,h.2⟩
theorem Bn.ts{c:Cs}{p:Sp}{x:Ps}(h:Bn p x){j:Int}{m:Nat}(hm:m≤x.cm.length):0≤jL c x.cm j m∧jL c x.cm j m≤1125899906842624*m :=
 Wh fun i hi=>by have:=h.cm i (by omega);omega
theorem agV{c:Cs}{l:List (List Int)}(h:BN c l){i:Nat}(hi:i<c.r.l.length):(nth l i).length≤40∧fN (nth l i) 2251799813685248:=by
 have a:=h.2 i hi;have:=(wa a.1).len;exact⟨by have:=a.2.1;omega,a.2.2.2⟩
theorem ai3{c:Cs}{l:List (List Int)}(h:BN c l){i:Nat}(hi:i<c.r.l.length):0≤sm (nth l i) (nth l i).length∧sm (nth l i) (nth l i).length≤90071992547409920:=by
 obtain⟨a,b⟩:=agV h hi;have:=BL (i:=(nth l i).length) b;omega
theorem den_mul{D a b:Int}(hD:1≤D∧D≤240000)(ha:0≤a∧a≤274877906944)(hb:0≤b∧b≤274877906944):-65970697666560000≤D*(a-b)∧D*(a-b)≤65970697666560000:=by
 have h1:0≤D*a:=Int.mul_nonneg (by omega) ha.1
 have h2:0≤D*b:=Int.mul_nonneg (by omega) hb.1
 have h3:D*a≤240000*274877906944:=Int.mul_le_mul hD.2 ha.2 ha.1 (by omega)
 have h4:D*b≤240000*274877906944:=Int.mul_le_mul hD.2 hb.2 hb.1 (by omega)
 rw[Int.mul_sub];omega
structure Ar(c:Cs)(p:Sp)(x:Ps)(A:List Int)(m:Nat):Prop where
 le:m≤c.r.l.length
 len:A.length=p.a.length
 at_:∀j,j<A.length→nth A j=nth p.a j+jL c x.cm j m
theorem Ar.zero{c:Cs}{p:Sp}{x:Ps}:Ar c p x p.a 0:=⟨by omega,rfl,fun j _=>by simp[jL]⟩
theorem Ar.next{c:Cs}{p:Sp}{x:Ps}{A:List Int}{m:Nat}(h:Ar c p x A m)(hm:m<c.r.l.length){t:Nat}(ht:(nth c.r.l m).t=t):Ar c p x (A.set t (nth A t+nth x.cm m)) (m+1) :=
 ⟨by omega,by simp[h.len],fun j hj=>by
  simp only[List.length_set]at hj;simp only[jL];by_cases g:j=t
  ·subst g
   rw[xv hj,if_pos rfl,if_pos ht,h.at_ j hj,Int.add_assoc]
  ·rw[if_neg (by omega),Int.add_zero,← h.at_ j hj]
   rcases Nat.lt_or_ge t A.length with q|q
   ·rw[xv q,if_neg g]
   ·rw[List.set_eq_of_length_le q]⟩
structure Lv(c:Cs)(p:Sp)(x:Ps)(L:List Int)(i:Nat):Prop where
 le:i≤c.s.length
 len:(L.length:Int)=c.r.n
 dam:∀k,k<i→nth L (nth c.s k).n.toNat=rL (nth x.re k)
 no:∀j,j<L.length→(∀k,k<i→(nth c.s k).n≠j)→nth L j=Kz c p x j
theorem Lv.next{c:Cs}(cv:xu c){p:Sp}{x:Ps}{L:List Int}{i:Nat}(h:Lv c p x L i)(hi:i<c.s.length){t:Nat}(ht:(nth c.s i).n=t):Lv c p x (L.set t (rL (nth x.re i))) (i+1):=by
 have hs:=(xz cv hi).1;have hs:0≤(nth c.s i).n∧(nth c.s i).n<c.r.n:=hs;have htl:t<L.length:=by have:=h.len;omega
 have up:∀k,k<i→(nth c.s k).n<(nth c.s i).n:=fun k hk=>by
  have:∀m,k<m→m<c.s.length→(nth c.s k).n<(nth c.s m).n:=by
   intro m;induction m with
   |zero=>intro a;omega
   |succ m ih =>
    intro a b;have s:=(xz cv b).2.1 (by omega)
    have s:(nth c.s m).n<(nth c.s (m+1)).n:=s;by_cases g:k=m
    ·subst g;exact s
    ·have:=ih (by omega) (by omega);omega
  exact this i hk hi
 refine⟨by omega,by simp[h.len],fun k hk=>?_,fun j hj lh=>?_⟩
 ·by_cases g:k=i
  ·subst g
   rw[ht,Int.toNat_natCast,xv htl,if_pos rfl]
  ·have:=up k (by omega)
   have:=(xz cv (i:=k) (by omega)).1
   have:0≤(nth c.s k).n∧(nth c.s k).n<c.r.n:=this;rw[xv htl,if_neg (by omega)]
   exact h.dam k (by omega)
 ·simp only[List.length_set]at hj
  have:=lh i (by omega)
  rw[xv htl,if_neg (by omega)]
  exact h.no j hj fun k hk=>lh k (by omega)
theorem Lv.all{c:Cs}(cv:xu c){p:Sp}{x:Ps}{L:List Int}(h:Lv c p x L c.s.length){j:Nat}(hj:j<L.length):nth L j=MW c p x j:=by
 unfold MW;cases hs:me c.s j with
 |none =>
  exact h.no j hj fun k hk=>by
   have:=VY hs k hk;exact this
 |some i =>
  obtain⟨a,b⟩:=xA hs;have b:(nth c.s i).n=j:=b;have:=h.dam i a;rw[b,Int.toNat_natCast]at this;exact this
set_option maxRecDepth 100000 in
set_option maxHeartbeats 4000000 in
theorem apC{c:Cs}(hr:oo c.r){f g:Fl}(hf:ua f)(hg:ua g)(p:Sp)(x:Ps)(hx:x.lf.length≤1000)(G:List aW) :
  bt F 40 [cs c,fl f,fl g,sv p,ps x] G=some (.bool (decide (HL c f g p x)),G) :=
 cg rfl rfl (by
  generalize hW:decide (HL c f g p x)=W;have no:¬ HL c f g p x→W=false:=fun h=>by rw[←hW,decide_eq_false h]
  have hV:=ajo c hr f hf;by_cases h1:gu c=0∧kB c f
  case neg =>
   rw[decide_eq_false h1]at hV;simp (disch:=omega) [-getElem?_pos,wrap64,zU,hV];exact no fun h=>h1 ⟨h.l.c0,h.l.f0⟩
  rw[decide_eq_true h1]at hV;have cv:=oZ h1.1;have kv:=nP cv.k;have mW:=Vp c (by have:=cv.s;omega) hr g hg
  by_cases h2:kB c g
  case neg =>
   rw[decide_eq_false h2]at mW;simp (disch:=omega) [-getElem?_pos,wrap64,zU,hV,mW];exact no fun h=>h2 h.l.g0
  rw[decide_eq_true h2]at mW;have CP:=ajx c p;by_cases h3:oq c p
  case neg =>
   rw[decide_eq_false h3]at CP;simp (disch:=omega) [-getElem?_pos,wrap64,zU,hV,mW,CP];exact no fun h=>h3 h.l.p0
  rw[decide_eq_true h3]at CP;by_cases h4:(x.re.length:Int)=c.s.length
  case neg =>
   simp (disch:=omega) [-getElem?_pos,wrap64,zU,hV,mW,CP,h4];exact no fun h=>h4 (by rw[h.l.re])
  by_cases h5:(x.lf.length:Int)=c.r.n
  case neg =>
   simp (disch:=omega) [-getElem?_pos,wrap64,zU,hV,mW,CP,h4,h5];exact no fun h=>h5 h.l.lf
  by_cases h6:(x.cm.length:Int)=c.r.l.length
  case neg =>
   simp (disch:=omega) [-getElem?_pos,wrap64,zU,hV,mW,CP,h4,h5,h6];exact no fun h=>h6 (by rw[h.l.cm])
  have ji:=kv.n;have IE:=kv.len;have BX:=h3.1;have apP:=cv.n;have Xj:=cv.s;have hC:=ajw p.a x.lf x.cm (by omega)
  have hA:=UP (p.a++x.lf++x.cm) (by simp;omega) (fun x => !decide (0≤x∧x≤274877906944)) 90 G (fun n=>asj n G)
  rw[ash]at hA;by_cases h7:fN (p.a++x.lf++x.cm) 274877906944
  case neg =>
   rw[decide_eq_false h7]at hA;have yB:=h7;generalize p.a++x.lf++x.cm=L at hC hA;simp (disch:=omega) [-getElem?_pos,wrap64,zU,hV,mW,CP,h4,h5,h6,hC,hA];exact no fun h=>yB h.all
  have bn:=apB h7;rw[decide_eq_true h7]at hA;have yB:=h7;generalize p.a++x.lf++x.cm=L at hC hA;have hCl:=Vy p.a (by omega)
  have cF:p.a≠[]:=by intro e;rw[e]at BX;simp at BX;omega
  have hO:=fun id t=>ajU (id:=id) (t:=t) cF;simp (disch:=omega) [-getElem?_pos,wrap64,zU,hV,mW,CP,h4,h5,h6,hC,hA,hCl,hO];refine go_loop (fun y:Nat×List Int=>aql p.a.length c.r.n.toNat (nN c.r.l) c.r.l.length y.1 c.row f.row g.row x.row (List.replicate c.r.n.toNat z0) (dS y.2) G) (fun y=>Ar c p x y.2 y.1∧∀k,k<y.1→Hz c f g x k) (fun y=>c.r.l.length-y.1) (0,p.a) rfl (by simp) ⟨Ar.zero,fun k hk=>absurd hk (by simp)⟩ ?_
  rintro⟨m,A⟩ ⟨ha,A3⟩;simp only at ha A3;have Nb:=ha.len;have BQ:=h1.2.2.2;have Nj:=h2.2.2;simp (disch:=omega) [-getElem?_pos,wrap64,aog];refine b9 (fun h8=>?_) (fun h8=>?_)
  ·have h8:m<c.r.l.length:=by omega
   have lk:=(kv.link h8).1;have hd:=(wa (kv.link h8).2.2).den;obtain⟨t,ht⟩:∃t:Nat,(nth c.r.l m).t=t:=⟨(nth c.r.l m).t.toNat,by omega⟩
   obtain⟨u,hu⟩:∃u:Nat,(nth c.r.l m).f=u:=⟨(nth c.r.l m).f.toNat,by omega⟩
   have q1:t<A.length:=by omega
   have q2:u<x.lf.length:=by omega
   have q3:m<x.cm.length:=by omega
   have q4:m<f.w.length:=by have:=BQ.1;omega
   have q5:m<g.w.length:=by have:=Nj.1;omega
   have b1:=bn.cm m q3;have b2:=bn.lf u q2;have b3:=bn.a t (by omega)
   have b4:=ha.at_ t q1;have b5:=bn.ts (c:=c) (j:=t) (m:=m) (by omega)
   have w1:=agV BQ h8;have w2:=agV Nj h8;have s1:=ai3 BQ h8;have s2:=ai3 Nj h8;have e1:=apr (nth f.w m) w1.1 w1.2;have e2:=apr (nth g.w m) w2.1 w2.2;have dm:=den_mul hd b2 b1;have hlp:Hz c f g x m↔sm (nth g.w m) (nth g.w m).length-sm (nth f.w m) (nth f.w m).length=(nth c.r.l m).r.den*(nth x.lf u-nth x.cm m):=by unfold Hz;rw[hu,Int.toNat_natCast]
   by_cases h9:sm (nth g.w m) (nth g.w m).length-sm (nth f.w m) (nth f.w m).length=(nth c.r.l m).r.den*(nth x.lf u-nth x.cm m)
   ·simp (disch:=omega) [-getElem?_pos,wrap64,bo (l:=c.r.l),ht,hu,kT,eA (l:=x.cm),bo (l:=g.w),bo (l:=f.w),e1,e2,eA (l:=x.lf),h9]
    refine cc (m+1,A.set t (nth A t+nth x.cm m)) (by simp) ⟨ha.next h8 ht,fun k hk=>?_⟩ (by simp only;omega)
    simp only at hk;by_cases g:k=m
    ·rw[g];exact hlp.2 h9
    ·exact A3 k (by omega)
   ·simp (disch:=omega) [-getElem?_pos,wrap64,bo (l:=c.r.l),ht,hu,kT,eA (l:=x.cm),bo (l:=g.w),bo (l:=f.w),e1,e2,eA (l:=x.lf),h9]
    exact no fun h=>h9 (hlp.1 (h.lk m h8))
  ·obtain rfl:m=c.r.l.length:=by have:=ha.le;omega
   have OI:(dS A).take p.a.length=dS A:=List.take_of_length_le (by simp;omega)
   have hT2:(dS A).take c.r.n.toNat=dS A:=List.take_of_length_le (by simp;omega)
   simp (disch:=omega) [-getElem?_pos,wrap64,OI,hT2,ajV];refine go_loop (fun y:Nat×List Int=>aqn p.a.length c.r.n.toNat (rJ c.s) c.s.length y.1 f.row g.row x.row (dS y.2) (dS A) G) (fun y=>Lv c p x y.2 y.1∧∀k,k<y.1→C0 c f g p x k) (fun y=>c.s.length-y.1) (0,A) rfl (by simp) ⟨⟨by simp,by simp only;omega,fun k hk=>absurd hk (by simp),fun j hj _=>ha.at_ j hj⟩,fun k hk=>absurd hk (by simp)⟩ ?_
   rintro⟨i,E⟩ ⟨hv,qj⟩;simp only at hv qj;have hEl:=hv.len;have hfd:=h1.2.2.1;have hgd:=h2.2.1;simp (disch:=omega) [-getElem?_pos,wrap64,aoh];refine b9 (fun fW=>?_) (fun fW=>?_)
   ·have fW:i<c.s.length:=by omega
    have hs:=(xz cv fW).1;have hs:0≤(nth c.s i).n∧(nth c.s i).n<c.r.n:=hs;obtain⟨t,ht⟩:∃t:Nat,(nth c.s i).n=t:=⟨(nth c.s i).n.toNat,by omega⟩
    have q1:t<A.length:=by omega
    have q2:i<x.re.length:=by omega
    have q3:i<f.d.length:=by have:=hfd.1;omega
    have q4:i<g.d.length:=by have:=hgd.1;omega
    have q5:t<E.length:=by omega
    have zD:=arL (nth f.d i) (nth g.d i) (nth x.re i);have e1:nth A t=Kz c p x t:=ha.at_ t q1;have hsq:C0 c f g p x i↔aiT (nth f.d i) (nth g.d i) (nth x.re i)∧(nth x.re i).inf=nth A t:=by unfold C0;rw[ht,Int.toNat_natCast,e1]
    by_cases ma:aiT (nth f.d i) (nth g.d i) (nth x.re i)
    case neg =>
     rw[decide_eq_false ma]at zD;simp (disch:=omega) [-getElem?_pos,wrap64,bo (l:=c.s),ht,bo (l:=x.re),bo (l:=f.d),bo (l:=g.d),zD];exact no fun h=>ma (h.si i fW).1
    rw[decide_eq_true ma]at zD;by_cases rm:(nth x.re i).inf=nth A t
    case neg =>
     simp (disch:=omega) [-getElem?_pos,wrap64,bo (l:=c.s),ht,bo (l:=x.re),bo (l:=f.d),bo (l:=g.d),zD,kT,rm];exact no fun h=>rm (hsq.1 (h.si i fW)).2
    have b4:0≤(nth x.re i).tur∧(nth x.re i).tur≤274877906944:=ma.1 4 (by omega)
    have b5:0≤(nth x.re i).spi∧(nth x.re i).spi≤274877906944:=ma.1 5 (by omega)
    have b6:0≤(nth x.re i).ovr∧(nth x.re i).ovr≤274877906944:=ma.1 6 (by omega)
    have hFw:=aix (nth x.re i) (by omega) (by omega) (by omega)
    simp (disch:=omega) [-getElem?_pos,wrap64,bo (l:=c.s),ht,bo (l:=x.re),bo (l:=f.d),bo (l:=g.d),zD,kT,← rm,hFw];refine cc (i+1,E.set t (rL (nth x.re i))) (by simp[rL]) ⟨hv.next cv fW ht,fun k hk=>?_⟩ (by simp only;omega)
    simp only at hk;by_cases g:k=i
    ·rw[g];exact hsq.2 ⟨ma,rm⟩
    ·exact qj k (by omega)
   ·obtain rfl:i=c.s.length:=by have:=hv.le;omega
    have hEn:c.r.n.toNat=E.length:=by omega
    have hEq:=asi E x.lf (by omega)
    simp (disch:=omega) [-getElem?_pos,wrap64,hEn,hEq];by_cases e:E=x.lf
    ·rw[decide_eq_true e,← hW,decide_eq_true]
     exact⟨⟨h1.1,h1.2,h2,h3,by omega,h5,by omega⟩,yB,A3,qj,fun j hj=>by rw[←e];exact hv.all cv (by omega)⟩
    ·rw[decide_eq_false e]
     exact(no fun h=>e (apA (by omega) fun j hj=>by rw[hv.all cv hj,h.le j (by omega)])).symm)
theorem apQ{c:Cs}(cv:xu c){k:Nat}:∀{m:Nat},k<m→m<c.s.length→(nth c.s k).n<(nth c.s m).n
 |m+1,a,b=>by
  have s:(nth c.s m).n<(nth c.s (m+1)).n:=(xz cv b).2.1 (by omega)
  by_cases g:k=m
  ·subst g;exact s
  ·have:=apQ cv (k:=k) (m:=m) (by omega) (by omega);omega
theorem asq(r:Dr):∃v,(∀G,bt F 95 [dr r] G=some (i64 v,G))∧(((0≤r.tur∧r.tur≤274877906944)∧(0≤r.spi∧r.spi≤274877906944)∧0≤r.ovr∧r.ovr≤274877906944)→v=rL r):=by
 refine⟨IntKind.i64.wrap (IntKind.i64.wrap (r.tur+r.spi)+r.ovr),fun G=>cg rfl rfl (by simp[wrap64,KZ]),fun h=>?_⟩
 rw[wrap64 (n:=r.tur+r.spi) (by omega) (by omega),wrap64 (by omega) (by omega)]
 rfl
theorem asr{a b:Ds}{r:Dr}(h:aiT a b r):(0≤r.tur∧r.tur≤274877906944)∧(0≤r.spi∧r.spi≤274877906944)∧0≤r.ovr∧r.ovr≤274877906944 :=
 ⟨h.1 4 (by omega),h.1 5 (by omega),h.1 6 (by omega)⟩
structure Wn(c:Cs)(f g:Fl)(p:Sp)(x:Ps)(k:Nat)(w:Int)(i:Nat):Prop where
 le:i≤c.s.length
 dam:∀m,m<i→(nth c.s m).n=k→C0 c f g p x m∧w=rL (nth x.re m)
 no:(∀m,m<i→(nth c.s m).n≠k)→w=Kz c p x k
theorem Wn.all{c:Cs}{f g:Fl}{p:Sp}{x:Ps}{k:Nat}{w:Int}(h:Wn c f g p x k w c.s.length):w=MW c p x k:=by
 unfold MW;cases hs:me c.s k with
 |none=>exact h.no fun m hm=>VY hs m hm
 |some i =>
  obtain⟨a,b⟩:=xA hs;exact(h.dam i a b).2
set_option maxRecDepth 100000 in
set_option maxHeartbeats 4000000 in
theorem ass{c:Cs}(hr:oo c.r){f g:Fl}(hf:ua f)(hg:ua g)(p:Sp)(x:Ps)(hx:x.lf.length≤1000)(G:List aW) :
  bt F 41 [cs c,fl f,fl g,sv p,ps x] G=some (.bool (decide (HL c f g p x)),G) :=
 cg rfl rfl (by
  generalize hW:decide (HL c f g p x)=W;have no:¬ HL c f g p x→W=false:=fun h=>by rw[←hW,decide_eq_false h]
  have hV:=Vq c hr f hf;by_cases h1:gu c=0∧kB c f
  case neg =>
   rw[decide_eq_false h1]at hV;simp (disch:=omega) [-getElem?_pos,wrap64,tP,hV];exact no fun h=>h1 ⟨h.l.c0,h.l.f0⟩
  rw[decide_eq_true h1]at hV;have cv:=oZ h1.1;have kv:=nP cv.k;have mW:=Vq c hr g hg;by_cases h2:kB c g
  case neg =>
   rw[decide_eq_false (fun h=>h2 h.2)]at mW;simp (disch:=omega) [-getElem?_pos,wrap64,tP,hV,mW];exact no fun h=>h2 h.l.g0
  rw[decide_eq_true ⟨h1.1,h2⟩]at mW;by_cases h3:oq c p
  case neg =>
   have jw:=h3;unfold oq at jw;by_cases a1:(p.a.length:Int)=c.r.n
   ·by_cases a2:(p.b.length:Int)=c.s.length
    ·by_cases a3:(p.c.length:Int)=c.s.length
     ·omega
     ·simp (disch:=omega) [-getElem?_pos,wrap64,tP,hV,mW,a1,a2,a3]
      exact no fun h=>h3 h.l.p0
    ·simp (disch:=omega) [-getElem?_pos,wrap64,tP,hV,mW,a1,a2]
     exact no fun h=>h3 h.l.p0
   ·simp (disch:=omega) [-getElem?_pos,wrap64,tP,hV,mW,a1]
    exact no fun h=>h3 h.l.p0
  have BX:=h3.1;have F4:(p.b.length:Int)=c.s.length:=by have:=h3.2.1;omega
  have Hf:(p.c.length:Int)=c.s.length:=by have:=h3.2.2;omega
  by_cases h4:(x.re.length:Int)=c.s.length
  case neg =>
   simp (disch:=omega) [-getElem?_pos,wrap64,tP,hV,mW,BX,F4,Hf,h4];exact no fun h=>h4 (by rw[h.l.re])
  by_cases h5:(x.lf.length:Int)=c.r.n
  case neg =>
   simp (disch:=omega) [-getElem?_pos,wrap64,tP,hV,mW,BX,F4,Hf,h4,h5];exact no fun h=>h5 h.l.lf
  by_cases h6:(x.cm.length:Int)=c.r.l.length
  case neg =>
   simp (disch:=omega) [-getElem?_pos,wrap64,tP,hV,mW,BX,F4,Hf,h4,h5,h6];exact no fun h=>h6 (by rw[h.l.cm])
  have ji:=kv.n;have IE:=kv.len;have apP:=cv.n;have Xj:=cv.s;have HM:=Nu p.a (by omega) 274877906944
  have Nb:=Nu x.lf (by omega) 274877906944
  have hAc:=Nu x.cm (by omega) 274877906944
  have vu:fN (p.a++x.lf++x.cm) 274877906944↔(fN p.a 274877906944∧fN x.lf 274877906944)∧fN x.cm 274877906944:=by rw[AZ,AZ]
  by_cases h7:fN (p.a++x.lf++x.cm) 274877906944
  case neg =>
   have yB:=fun h=>h7 (vu.2 h);by_cases a1:fN p.a 274877906944
   ·by_cases a2:fN x.lf 274877906944
    ·have a3:¬ fN x.cm 274877906944:=fun h=>yB ⟨⟨a1,a2⟩,h⟩
     rw[decide_eq_true a1]at HM;rw[decide_eq_true a2]at Nb;rw[decide_eq_false a3]at hAc;simp (disch:=omega) [-getElem?_pos,wrap64,tP,hV,mW,BX,F4,Hf,h4,h5,h6,HM,Nb,hAc];exact no fun h=>h7 h.all
    ·rw[decide_eq_true a1]at HM
     rw[decide_eq_false a2]at Nb;simp (disch:=omega) [-getElem?_pos,wrap64,tP,hV,mW,BX,F4,Hf,h4,h5,h6,HM,Nb];exact no fun h=>h7 h.all
   ·rw[decide_eq_false a1]at HM
    simp (disch:=omega) [-getElem?_pos,wrap64,tP,hV,mW,BX,F4,Hf,h4,h5,h6,HM];exact no fun h=>h7 h.all
  have bn:=apB h7;have yB:=vu.1 h7;rw[decide_eq_true yB.1.1]at HM;rw[decide_eq_true yB.1.2]at Nb;rw[decide_eq_true yB.2]at hAc;have cF:p.a≠[]:=by intro e;rw[e]at BX;simp at BX;omega
  have L6:p.a.isEmpty=false:=by cases e:p.a with|nil=>exact absurd e cF|cons=>rfl
  simp (disch:=omega) [-getElem?_pos,wrap64,tP,hV,mW,BX,F4,Hf,h4,h5,h6,HM,Nb,hAc,L6];refine go_loop (fun y:Nat×List Int=>aqs p.a.length (nN c.r.l) c.r.l.length y.1 c.row f.row g.row x.row (dS y.2) G) (fun y=>Ar c p x y.2 y.1) (fun y=>c.r.l.length-y.1) (0,p.a) rfl (by simp) Ar.zero ?_
  rintro⟨m,A⟩ ha;simp only at ha;have atx:=ha.len;have BQ:=h1.2.2.2;have Nj:=h2.2.2;simp (disch:=omega) [-getElem?_pos,wrap64,aoi];refine b9 (fun h8=>?_) (fun h8=>?_)
  ·have h8:m<c.r.l.length:=by omega
   have lk:=(kv.link h8).1;obtain⟨t,ht⟩:∃t:Nat,(nth c.r.l m).t=t:=⟨(nth c.r.l m).t.toNat,by omega⟩
   have q1:t<A.length:=by omega
   have q3:m<x.cm.length:=by omega
   have b1:=bn.cm m q3;have b3:=bn.a t (by omega)
   have b4:=ha.at_ t q1;have b5:=bn.ts (c:=c) (j:=t) (m:=m) (by omega)
   simp (disch:=omega) [-getElem?_pos,wrap64,bo (l:=c.r.l),ht,kT,eA (l:=x.cm)];exact cc (m+1,A.set t (nth A t+nth x.cm m)) (by simp) (ha.next h8 ht) (by simp only;omega)
  obtain rfl:m=c.r.l.length:=by have:=ha.le;omega
  have hAr:∀j,j<A.length→nth A j=Kz c p x j:=ha.at_;refine go_loop (fun k:Nat=>aqC p.a.length (ints x.lf) x.lf.length k c.row f.row g.row x.row (dS A) G) (fun k=>k≤x.lf.length∧∀j:Nat,j<k→nth x.lf j=MW c p x j∧∀m,m<c.s.length→(nth c.s m).n=j→C0 c f g p x m) (fun k=>x.lf.length-k) 0 rfl (by simp) (by simp) ?_
  rintro k ⟨hk,hj⟩;simp (disch:=omega) [-getElem?_pos,wrap64,aoK];refine b9 (fun h9=>?_) (fun h9=>?_)
  ·have h9:k<x.lf.length:=by omega
   have q1:k<A.length:=by omega
   simp (disch:=omega) [-getElem?_pos,wrap64,eA (l:=x.lf),kT];refine go_loop (fun y:Nat×Int=>aqx p.a.length k (nth x.lf k) y.2 (ints x.lf) x.lf.length k (rJ c.s) c.s.length y.1 c.row f.row g.row x.row (dS A) G) (fun y=>Wn c f g p x k y.2 y.1) (fun y=>c.s.length-y.1) (0,nth A k) rfl (by simp) ⟨by simp,fun m hm=>absurd hm (by simp),fun _=>hAr k q1⟩ ?_
   rintro⟨i,w⟩ hw;simp only at hw;simp (disch:=omega) [-getElem?_pos,wrap64,aoj];refine b9 (fun fW=>?_) (fun fW=>?_)
   ·have fW:i<c.s.length:=by omega
    have hfd:=h1.2.2.1;have hgd:=h2.2.1;have q2:i<x.re.length:=by omega
    have q3:i<f.d.length:=by have:=hfd.1;omega
    have q4:i<g.d.length:=by have:=hgd.1;omega
    by_cases hn:(nth c.s i).n=k
    case neg =>
     simp (disch:=omega) [-getElem?_pos,wrap64,bo (l:=c.s),hn];exact cc (i+1,w) (by simp) ⟨by simp only;omega,fun m hm e=>by
      simp only at hm;by_cases g:m=i
      ·subst g;exact absurd e hn
      ·exact hw.dam m (by omega) e,fun lh=>hw.no fun m hm=>lh m (by simp only;omega)⟩ (by simp only;omega)
    have zD:=arV (nth f.d i) (nth g.d i) (nth x.re i);obtain⟨v,hFw,hv⟩:=asq (nth x.re i);have hsq:C0 c f g p x i↔aiT (nth f.d i) (nth g.d i) (nth x.re i)∧(nth x.re i).inf=nth A k:=by unfold C0;rw[hn,Int.toNat_natCast,hAr k q1]
    by_cases ma:aiT (nth f.d i) (nth g.d i) (nth x.re i)
    case neg =>
     rw[decide_eq_false ma]at zD;simp (disch:=omega) [-getElem?_pos,wrap64,bo (l:=c.s),hn,bo (l:=x.re),bo (l:=f.d),bo (l:=g.d),zD,hFw];exact no fun h=>ma (h.si i fW).1
    rw[decide_eq_true ma]at zD;by_cases rm:(nth x.re i).inf=nth A k
    case neg =>
     simp (disch:=omega) [-getElem?_pos,wrap64,bo (l:=c.s),hn,bo (l:=x.re),bo (l:=f.d),bo (l:=g.d),zD,kT,rm,hFw];exact no fun h=>rm (hsq.1 (h.si i fW)).2
    have hv:=hv (asr ma);simp (disch:=omega) [-getElem?_pos,wrap64,bo (l:=c.s),hn,bo (l:=x.re),bo (l:=f.d),bo (l:=g.d),zD,kT,← rm,hFw];refine cc (i+1,v) (by simp) ⟨by simp only;omega,fun m hm e=>?_,fun lh=>absurd hn (lh i (by simp only;omega))⟩ (by simp only;omega)
    simp only at hm ⊢;by_cases g:m=i
    ·subst g;exact⟨hsq.2 ⟨ma,rm⟩,hv⟩
    ·have:=apQ cv (k:=m) (m:=i) (by omega) fW
     omega
   ·obtain rfl:i=c.s.length:=by have:=hw.le;omega
    by_cases e:nth x.lf k=w
    ·simp (disch:=omega) [-getElem?_pos,wrap64,e]
     refine cc (k+1) (by simp) ⟨by omega,fun j EZ=>?_⟩ (by omega)
     by_cases g:j=k
     ·subst g
      exact⟨by rw[e];exact hw.all,fun m hm en=>(hw.dam m hm en).1⟩
     ·exact hj j (by omega)
    ·simp (disch:=omega) [-getElem?_pos,wrap64,e]
     exact no fun h=>e (by rw[h.le k (by omega),hw.all])
  obtain rfl:k=x.lf.length:=by omega
  refine go_loop (fun m:Nat=>aqE (nN c.r.l) c.r.l.length m f.row g.row x.row G) (fun m=>m≤c.r.l.length∧∀i,i<m→Hz c f g x i) (fun m=>c.r.l.length-m) 0 rfl (by simp) (by simp) ?_
  rintro m ⟨hm,A3⟩;simp (disch:=omega) [-getElem?_pos,wrap64,aoL];refine b9 (fun h8=>?_) (fun h8=>?_)
  ·have h8:m<c.r.l.length:=by omega
   have lk:=(kv.link h8).1;have hd:=(wa (kv.link h8).2.2).den;obtain⟨u,hu⟩:∃u:Nat,(nth c.r.l m).f=u:=⟨(nth c.r.l m).f.toNat,by omega⟩
   have q2:u<x.lf.length:=by omega
   have q3:m<x.cm.length:=by omega
   have q4:m<f.w.length:=by have:=BQ.1;omega
   have q5:m<g.w.length:=by have:=Nj.1;omega
   have b1:=bn.cm m q3;have b2:=bn.lf u q2;have w1:=agV BQ h8;have w2:=agV Nj h8;have s1:=ai3 BQ h8;have s2:=ai3 Nj h8;have e1:=aps (nth f.w m) w1.1 w1.2;have e2:=aps (nth g.w m) w2.1 w2.2;have dm:=den_mul hd b2 b1;have Ig:=Int.mul_comm (nth c.r.l m).r.den (nth x.lf u-nth x.cm m);have hlp:Hz c f g x m↔(nth x.lf u-nth x.cm m)*(nth c.r.l m).r.den=sm (nth g.w m) (nth g.w m).length-sm (nth f.w m) (nth f.w m).length:=by unfold Hz;rw[hu,Int.toNat_natCast];omega
   by_cases h9:(nth x.lf u-nth x.cm m)*(nth c.r.l m).r.den=sm (nth g.w m) (nth g.w m).length-sm (nth f.w m) (nth f.w m).length
   ·simp (disch:=omega) [-getElem?_pos,wrap64,bo (l:=c.r.l),hu,eA (l:=x.cm),bo (l:=g.w),bo (l:=f.w),e1,e2,eA (l:=x.lf),h9]
    refine cc (m+1) (by simp) ⟨by omega,fun k hk=>?_⟩ (by omega)
    by_cases g:k=m
    ·rw[g];exact hlp.2 h9
    ·exact A3 k (by omega)
   ·simp (disch:=omega) [-getElem?_pos,wrap64,bo (l:=c.r.l),hu,eA (l:=x.cm),bo (l:=g.w),bo (l:=f.w),e1,e2,eA (l:=x.lf),h9]
    exact no fun h=>h9 (hlp.1 (h.lk m h8))
  ·obtain rfl:m=c.r.l.length:=by omega
   rw[←hW,decide_eq_true];refine⟨⟨h1.1,h1.2,h2,h3,by omega,h5,by omega⟩,h7,A3,fun i hi=>?_,fun j EZ=>(hj j (by omega)).1⟩
   have hs:=(xz cv hi).1;have hs:0≤(nth c.s i).n∧(nth c.s i).n<c.r.n:=hs;exact(hj (nth c.s i).n.toNat (by omega)).2 i hi (by omega))
end Go.Proofs.YtmpikpodpgnjhaaGreat
namespace Go.Proofs.YtmpikpodpgnjhaaGreat
set_option linter.all false
open Go.Vm
theorem asu{d:Dm}{s:Ds}{a b c:Int}(h:mZ d s a b c=0):aiT s (lr d s a b c) (la d s a b c):=by
 obtain⟨hd,hf,ha,hb,hc⟩:=VL h;have hv:=tW hd;have h1:=aiW hv.r;have h2:=hf.1;have h3:=(aiR hv hf ha hb hc).1;obtain⟨⟨r1,r2,r3⟩,r4,r5⟩:=VM h;have hi:(la d s a b c).inf=a:=rfl;unfold rL at r5;refine⟨fun i hi=>?_,by omega⟩
 have:i=0∨i=1∨i=2∨i=3∨i=4∨i=5∨i=6:=by omega
 rcases this with rfl|rfl|rfl|rfl|rfl|rfl|rfl
 ·show 0≤s.v∧s.v≤274877906944
  omega
 ·show 0≤(lr d s a b c).v∧(lr d s a b c).v≤274877906944
  omega
 ·show 0≤a∧a≤274877906944
  omega
 ·show 0≤(la d s a b c).los∧(la d s a b c).los≤274877906944
  omega
 ·show 0≤(la d s a b c).tur∧(la d s a b c).tur≤274877906944
  omega
 ·show 0≤(la d s a b c).spi∧(la d s a b c).spi≤274877906944
  omega
 ·show 0≤(la d s a b c).ovr∧(la d s a b c).ovr≤274877906944
  omega
theorem apY{c:Cs}{l:List Int}{j B:Int}(hB:0≤B):∀{m:Nat},(∀i,i<m→0≤nth l i∧nth l i≤B)→0≤jL c l j m∧jL c l j m≤B*m
 |0,_=>by simp[jL]
 |m+1,h=>by
  have h1:=apY (c:=c) (j:=j) hB fun i hi=>h i (Nat.lt_succ_of_lt hi);have h2:=h m (by omega)
  have h3:B*((m+1:Nat):Int)=B*m+B:=by rw[Int.natCast_add,Int.mul_add];simp
  simp only[jL];split<;>omega
theorem asv{r:Rr}(h:Kv r):(r.l.length:Int)≤r.n-1:=by
 rcases Nat.eq_zero_or_pos r.l.length with g|g
 ·have:=h.n;omega
 ·have a:=h.up (i:=r.l.length-1) (by omega)
  have b:=(h.link (i:=r.l.length-1) (by omega)).1
  omega
theorem asw{c:Cs}{f:Fl}{p:Sp}(h:Pa c f p)(hb:hB c f 20){k:Nat}(hk:k<c.r.n.toNat):0≤nth (zV c f p).lf k∧nth (zV c f p).lf k≤274877906944:=by
 have cv:=oZ h.c0;have kv:=nP cv.k;have hl:=(BR h (Nat.le_refl _)).lf k hk;have hl:nth (zV c f p).lf k=fG c p (cB c p f k) k:=hl;rw[hl];unfold fG;have he:=(VQ (h.v k hk)).1;unfold lO at he;cases hs:me c.s k with
 |none =>
  simp only;have Ig:=(amn h (by omega) hb).2
  have hpk:=h.all k (by have:=h.p0.1;simp;omega)
  rw[og (by have:=h.p0.1;simp;omega),og (by have:=h.p0.1;omega)]at hpk
  rw[akC h hk];have ht:=apY (c:=c) (l:=(fin c p f).cm) (j:=k) (B:=22548578304) (by omega) (m:=c.r.l.length) fun i hi=>by
   have:=Ig i hi;have e:nth (zV c f p).cm i=nth (fin c p f).cm i:=rfl;omega
  have:=asv kv;have:=cv.n;omega
 |some i =>
  rw[hs]at he;simp only at he ⊢;have r:=(VM he).1;unfold rL vR;omega
theorem asy{c:Cs}{f:Fl}{p:Sp}(h:Pa c f p)(hb:hB c f 20):HL c f (wo c f p) p (zV c f p):=by
 have cv:=oZ h.c0;have kv:=nP cv.k;have wQ:=NG cv p f;have hv:=h.vc (Nat.le_refl _);have hh:=BR h (Nat.le_refl _);have YT:((zV c f p).lf.length:Int)=c.r.n:=by
  have:=hv.ll;have e:(zV c f p).lf.length=(cB c p f c.r.n.toNat).lf.length:=rfl;have:=kv.n;omega
 have Ig:=(amn h (by omega) hb).2
 have O2:∀k,k<c.r.n.toNat→Kz c p (zV c f p) k=nth (cB c p f k).arr k:=fun k hk=>(akC h hk).symm;refine⟨⟨h.c0,h.f0,h.fl,h.p0,wQ.1,YT,wQ.2⟩,?_,fun i hi=>?_,fun i hi=>?_,fun j hj=>?_⟩
 ·rw[AZ,AZ]
  have ha:=h.all;rw[AZ,AZ]at ha;refine⟨⟨fun i hi=>?_,fun i hi=>asw h hb (by omega)⟩,fun i hi=>?_⟩
  ·have:=ha.1.1 i hi;omega
  ·have:=Ig i (by have:(zV c f p).cm.length=c.r.l.length:=wQ.2;omega);omega
 ·obtain⟨k,k1,k2,hl⟩:=hh.link i (by rw[wQ.2];exact hi)
  have hr:=aml hl.e;have k2:(nth c.r.l i).f=k:=k2;have e1:nth (wo c f p).w i=_:=hl.w;have e2:nth (zV c f p).cm i=_:=hl.o;have e3:nth (zV c f p).lf k=_:=hh.lf k k1;unfold Hz;rw[k2,Int.toNat_natCast,e1,e2,e3,hr];omega
 ·obtain⟨k,k1,k2,hd⟩:=hh.site i (by rw[wQ.1];exact hi)
  have k2:(nth c.s i).n=k:=k2;have e1:nth (wo c f p).d i=_:=hd.d;have e2:nth (zV c f p).re i=_:=hd.r;unfold C0;rw[k2,Int.toNat_natCast,e1,e2,O2 k k1];exact⟨asu hd.e,rfl⟩
 ·have e3:nth (zV c f p).lf j=_:=hh.lf j hj
  rw[e3];unfold fG MW;cases hs:me c.s j with
  |none=>exact(O2 j hj).symm
  |some i =>
   obtain⟨a,b⟩:=xA hs;have b:(nth c.s i).n=j:=b;obtain⟨k,k1,k2,hd⟩:=hh.site i (by rw[wQ.1];exact a)
   have k2:(nth c.s i).n=k:=k2;obtain rfl:k=j:=by omega
   have e2:nth (zV c f p).re i=_:=hd.r;have q:=(uW (zW cv p f k).s (fun j h0 hj=>(xz cv hj).2.1 h0) a b).1;simp only[vR];rw[e2,(NJ cv p f k).d.2 i (by omega)]
end Go.Proofs.YtmpikpodpgnjhaaGreat
namespace Go.Proofs.YtmpikpodpgnjhaaGreat
set_option linter.all false
open Go.Vm
attribute [local simp] eU eV eS eT
theorem flat_get{α:Type}[Inhabited α]{row:α→List V}{k:Nat}(hk:∀a,(row a).length=k){l:List α}{i j:Nat}(hi:i<l.length)(hj:j<k):((l.map row).flatten)[i*k+j]?=(row (nth l i))[j]?:=by
 rw[←Nq hk hi,List.getElem?_take_of_lt hj,List.getElem?_drop]
theorem ap4{α:Type}[Inhabited α]{row:α→List V}{k:Nat}(hk:∀a,(row a).length=k){l:List α}{i j:Nat}(hi:i<l.length)(hj:j<k){x:α}{v:V}(hx:row x=(row (nth l i)).set j v) :
  ((l.map row).flatten).set (i*k+j) v=((l.set i x).map row).flatten:=by
 rw[←HR hk hi];refine List.ext_getElem? fun m=>?_;have hl:=HQ hk l;have kL:i*k+k≤l.length*k:=by rw[←Nat.succ_mul];exact Nat.mul_le_mul_right k hi
 rw[Af,hk,hl,List.getElem?_set,hl];by_cases g:i*k≤m∧m<i*k+k∧m<l.length*k
 ·obtain⟨d,rfl⟩:∃d,m=i*k+d:=⟨m-i*k,by omega⟩
  rw[if_pos g,Nat.add_sub_cancel_left,hx,List.getElem?_set,hk];by_cases e:j=d
  ·subst e;rw[if_pos rfl,if_pos rfl,if_pos (by omega),if_pos (by omega)]
  ·rw[if_neg (by omega),if_neg e,flat_get hk hi (by omega)]
 ·rw[if_neg g,if_neg (by omega)]
def spU(r:Dr)(v:Int):Dr:=⟨r.inf,r.los,r.tur,v,r.ovr,r.pow,r.lN⟩
def vU(s:Ds)(v:Int):Ds:=⟨v,s.rel,s.u,s.g⟩
theorem ap5{l:List Dr}{i:Nat}(h:i<l.length):(sX l)[i*7+3]?=some (i64 (nth l i).spi):=flat_get (row:=Dr.row) (fun _=>rfl) h (by omega)
theorem ap6{l:List Dr}{i:Nat}(h:i<l.length){v:Int}:(sX l).set (i*7+3) (i64 v)=sX (l.set i (spU (nth l i) v)):=ap4 (row:=Dr.row) (fun _=>rfl) h (by omega) rfl
theorem ap9{l:List Ds}{i:Nat}(h:i<l.length):(jj l)[i*4]?=some (i64 (nth l i).v):=flat_get (row:=Ds.row) (k:=4) (j:=0) (fun _=>rfl) h (by omega)
theorem aqa{l:List Ds}{i:Nat}(h:i<l.length){v:Int}:(jj l).set (i*4) (i64 v)=jj (l.set i (vU (nth l i) v)):=ap4 (row:=Ds.row) (k:=4) (j:=0) (fun _=>rfl) h (by omega) rfl
theorem NC{a:Int}{n:Nat}(ha:0≤a)(hn:0<n):∃i:Nat,a.tmod n=i∧i<n:=by
 have h1:=Int.tmod_nonneg (n:Int) ha;have h2:=Int.tmod_lt_of_pos a (b:=(n:Int)) (by omega)
 exact⟨(a.tmod n).toNat,by omega,by omega⟩
theorem oP(l:List Dr):(l.map Dr.row).flatten=sX l:=rfl
@[simp] theorem aty{l:List Dr}{a b:Nat}:(sX l).map (V.ic a b)=sX l:=EC (row:=Dr.row) (fun a=>by simp) l
set_option maxRecDepth 100000 in
set_option maxHeartbeats 40000000 in
theorem asz{l:List Int}(hl:l.length≤9223372036854775807){AI at_:Int}(hw:0≤AI∧AI≤255)(ha:0≤at_∧at_≤255)(w:Int):∃G',bt F 8 [ints l,.int .u8 AI,.int .u8 at_,i64 w] []=some (.bool true,G'):=by
 suffices h:jq (bt F) 8 [ints l,.int .u8 AI,.int .u8 at_,i64 w] [] fun v _=>v=.bool true by
  obtain⟨_,G,h,rfl⟩:=h;exact⟨G,h⟩
 refine jV rfl rfl ?_;by_cases h1:l.length≤500
 case neg=>simp +contextual (disch:=omega) [-getElem?_pos,-List.length_eq_zero_iff,-Int.natCast_eq_zero,wrap64,mr,NM,L8,h1]
 obtain⟨c,f,k1,n1,kd,Ig,kN,hB⟩:=amr (l:=l) (k:=0) ⟨by omega,hl⟩
 have hz:=Ig.mT;have cv:=oZ hz;have kv:=nP cv.k;have VH:=Ig.small;have JO:=Ig.n;have hs3:=Ig.s;have ji:=kv.n;have IE:=kv.len;obtain⟨p,k2,n2,ik,hp,ap2,_,_⟩:=ajF kd (c:=c) (by omega) (by omega)
 obtain⟨t,G1,hS⟩:=NF VH (akp cv.k kN) p;by_cases he:ot c f p=0
 case neg =>
  rw[sW,if_neg he]at hS;simp +contextual (disch:=omega) [-getElem?_pos,-List.length_eq_zero_iff,-Int.natCast_eq_zero,wrap64,mr,NM,L8,h1,Tl,n1,n2,hS,he]
 rw[sW,if_pos he]at hS;have pp:=ako he;have HF:=asy pp (Jh cv.k hB (by omega))
 have ij:=akp cv.k pp.fl;have il:=apC VH (akp cv.k kN) ij p (zV c f p) (by have:=HF.l.lf;omega)
 rw[decide_eq_true HF]at il;have j8:ED (wo c f p).d:=Nw hz pp.fl.2.1;have hwv:Ns (wo c f p).w:=VR cv.k pp.fl.2.2;have hL:=HF.l;have hgd:=pp.fl.2.1.1;generalize wo c f p=g at *;generalize zV c f p=P at *;have oR:=ajs g j8 hwv;have YT:=hL.lf;have nO:P.lf.isEmpty=false:=by cases e:P.lf with|nil=>simp[e]at YT;omega|cons=>rfl
 have yh:=hL.re;have dD:=hL.cm;have Xj:=cv.s;have apP:=cv.n;obtain⟨re,lf,cm⟩:=P;simp only at YT nO yh dD;have OB:¬ (lf.length:Int)=0:=by omega
 have asB:AI.tmod 5=0∨AI.tmod 5=1∨AI.tmod 5=2∨AI.tmod 5=3∨AI.tmod 5=4:=by
  have h1:=Int.tmod_nonneg 5 hw.1;have h2:=Int.tmod_lt_of_pos AI (b:=5) (by omega)
  omega
 have BS:re=[]∧re.isEmpty=true∨re.isEmpty=false:=by cases re<;>simp
 have ahg:cm=[]∧cm.isEmpty=true∨cm.isEmpty=false:=by cases cm<;>simp
 have E1:=fun(z:Fl) (hz:ua z) (y:Ps) (hy:y.lf.length≤1000)=>apC VH (akp cv.k kN) hz p y hy;have E2:=fun(z:Fl) (hz:ua z) (y:Ps) (hy:y.lf.length≤1000)=>ass VH (akp cv.k kN) hz p y hy;rcases asB with r0|r0|r0|r0|r0
 ·obtain⟨i,hi,Ji⟩:=NC (a:=at_) (n:=lf.length) ha.1 (by omega)
  obtain⟨qa,hqa⟩:∃qa,lf.set i (IntKind.i64.wrap (nth lf i+w))=qa:=⟨_,rfl⟩;have ph:qa.length=lf.length:=by rw[←hqa];simp
  rcases BS with⟨rfl,hree⟩ | hree<;>rcases ahg with⟨rfl,hcme⟩ | hcme
  ·have e1:=E1 g ij ⟨[],qa,[]⟩ (by simp only;omega)
   have e2:=E2 g ij ⟨[],qa,[]⟩ (by simp only;omega)
   simp only[ps,Ps.row,ints,List.map_nil]at hS il e1 e2;simp (config:={ maxSteps:=2000000 }) +contextual (disch:=omega) [-getElem?_pos,-List.length_eq_zero_iff,-Int.natCast_eq_zero,wrap64,mr,NM,L8,h1,Tl,n1,n2,hS,il,nO,hree,hcme,oR,r0,hi,OB,oP,aj3,zR,HU,kT,hqa,ph,e1,e2]
  ·have e1:=E1 g ij ⟨[],qa,cm⟩ (by simp only;omega)
   have e2:=E2 g ij ⟨[],qa,cm⟩ (by simp only;omega)
   simp only[ps,Ps.row,ints,List.map_nil]at hS il e1 e2;simp (config:={ maxSteps:=2000000 }) +contextual (disch:=omega) [-getElem?_pos,-List.length_eq_zero_iff,-Int.natCast_eq_zero,wrap64,mr,NM,L8,h1,Tl,n1,n2,hS,il,nO,hree,hcme,oR,r0,hi,OB,oP,aj3,zR,HU,kT,hqa,ph,e1,e2]
  ·have e1:=E1 g ij ⟨re,qa,[]⟩ (by simp only;omega)
   have e2:=E2 g ij ⟨re,qa,[]⟩ (by simp only;omega)
   simp only[ps,Ps.row,ints,List.map_nil]at hS il e1 e2;simp (config:={ maxSteps:=2000000 }) +contextual (disch:=omega) [-getElem?_pos,-List.length_eq_zero_iff,-Int.natCast_eq_zero,wrap64,mr,NM,L8,h1,Tl,n1,n2,hS,il,nO,hree,hcme,oR,r0,hi,OB,oP,aj3,zR,HU,kT,hqa,ph,e1,e2]
  ·have e1:=E1 g ij ⟨re,qa,cm⟩ (by simp only;omega)
   have e2:=E2 g ij ⟨re,qa,cm⟩ (by simp only;omega)
   simp only[ps,Ps.row,ints,List.map_nil]at hS il e1 e2;simp (config:={ maxSteps:=2000000 }) +contextual (disch:=omega) [-getElem?_pos,-List.length_eq_zero_iff,-Int.natCast_eq_zero,wrap64,mr,NM,L8,h1,Tl,n1,n2,hS,il,nO,hree,hcme,oR,r0,hi,OB,oP,aj3,zR,HU,kT,hqa,ph,e1,e2]
 ·rcases BS with⟨rfl,hree⟩ | hree<;>rcases ahg with⟨rfl,hcme⟩ | hcme
  ·have e1:=E1 g ij ⟨[],lf,[]⟩ (by simp only;omega)
   have e2:=E2 g ij ⟨[],lf,[]⟩ (by simp only;omega)
   simp only[ps,Ps.row,ints,List.map_nil]at hS il e1 e2;simp (config:={ maxSteps:=2000000 }) +contextual (disch:=omega) [-getElem?_pos,-List.length_eq_zero_iff,-Int.natCast_eq_zero,wrap64,mr,NM,L8,h1,Tl,n1,n2,hS,il,nO,hree,hcme,oR,r0,OB,oP,aj3,zR,HU,kT,e1,e2];exact HF
  ·have rM:0<cm.length:=by cases cm with|nil=>simp at hcme|cons=>simp
   have OB:¬ (cm.length:Int)=0:=by omega
   obtain⟨i,hi,Ji⟩:=NC (a:=at_) (n:=cm.length) ha.1 (by omega)
   obtain⟨qa,hqa⟩:∃qa,cm.set i (IntKind.i64.wrap (nth cm i+w))=qa:=⟨_,rfl⟩;have ph:qa.length=cm.length:=by rw[←hqa];simp
   have e1:=E1 g ij ⟨[],lf,qa⟩ (by simp only;omega)
   have e2:=E2 g ij ⟨[],lf,qa⟩ (by simp only;omega)
   simp only[ps,Ps.row,ints,List.map_nil]at hS il e1 e2;simp (config:={ maxSteps:=2000000 }) +contextual (disch:=omega) [-getElem?_pos,-List.length_eq_zero_iff,-Int.natCast_eq_zero,wrap64,mr,NM,L8,h1,Tl,n1,n2,hS,il,nO,hree,hcme,oR,r0,hi,OB,oP,aj3,zR,HU,kT,hqa,ph,e1,e2,rM]
  ·have e1:=E1 g ij ⟨re,lf,[]⟩ (by simp only;omega)
   have e2:=E2 g ij ⟨re,lf,[]⟩ (by simp only;omega)
   simp only[ps,Ps.row,ints,List.map_nil]at hS il e1 e2;simp (config:={ maxSteps:=2000000 }) +contextual (disch:=omega) [-getElem?_pos,-List.length_eq_zero_iff,-Int.natCast_eq_zero,wrap64,mr,NM,L8,h1,Tl,n1,n2,hS,il,nO,hree,hcme,oR,r0,OB,oP,aj3,zR,HU,kT,e1,e2];exact HF
  ·have rM:0<cm.length:=by cases cm with|nil=>simp at hcme|cons=>simp
   have OB:¬ (cm.length:Int)=0:=by omega
   obtain⟨i,hi,Ji⟩:=NC (a:=at_) (n:=cm.length) ha.1 (by omega)
   obtain⟨qa,hqa⟩:∃qa,cm.set i (IntKind.i64.wrap (nth cm i+w))=qa:=⟨_,rfl⟩;have ph:qa.length=cm.length:=by rw[←hqa];simp
   have e1:=E1 g ij ⟨re,lf,qa⟩ (by simp only;omega)
   have e2:=E2 g ij ⟨re,lf,qa⟩ (by simp only;omega)
   simp only[ps,Ps.row,ints,List.map_nil]at hS il e1 e2;simp (config:={ maxSteps:=2000000 }) +contextual (disch:=omega) [-getElem?_pos,-List.length_eq_zero_iff,-Int.natCast_eq_zero,wrap64,mr,NM,L8,h1,Tl,n1,n2,hS,il,nO,hree,hcme,oR,r0,hi,OB,oP,aj3,zR,HU,kT,hqa,ph,e1,e2,rM]
 ·rcases BS with⟨rfl,hree⟩ | hree<;>rcases ahg with⟨rfl,hcme⟩ | hcme
  ·have e1:=E1 g ij ⟨[],lf,[]⟩ (by simp only;omega)
   have e2:=E2 g ij ⟨[],lf,[]⟩ (by simp only;omega)
   simp only[ps,Ps.row,ints,List.map_nil]at hS il e1 e2;simp (config:={ maxSteps:=2000000 }) +contextual (disch:=omega) [-getElem?_pos,-List.length_eq_zero_iff,-Int.natCast_eq_zero,wrap64,mr,NM,L8,h1,Tl,n1,n2,hS,il,nO,hree,hcme,oR,r0,OB,oP,aj3,zR,HU,kT,e1,e2];exact HF
  ·have e1:=E1 g ij ⟨[],lf,cm⟩ (by simp only;omega)
   have e2:=E2 g ij ⟨[],lf,cm⟩ (by simp only;omega)
   simp only[ps,Ps.row,ints,List.map_nil]at hS il e1 e2;simp (config:={ maxSteps:=2000000 }) +contextual (disch:=omega) [-getElem?_pos,-List.length_eq_zero_iff,-Int.natCast_eq_zero,wrap64,mr,NM,L8,h1,Tl,n1,n2,hS,il,nO,hree,hcme,oR,r0,OB,oP,aj3,zR,HU,kT,e1,e2];exact HF
  ·have rM:0<re.length:=by cases re with|nil=>simp at hree|cons=>simp
   have OB:¬ (re.length:Int)=0:=by omega
   obtain⟨i,hi,Ji⟩:=NC (a:=at_) (n:=re.length) ha.1 (by omega)
   obtain⟨qa,hqa⟩:∃qa,re.set i (spU (nth re i) (IntKind.i64.wrap ((nth re i).spi+w)))=qa:=⟨_,rfl⟩;have ph:qa.length=re.length:=by rw[←hqa];simp
   have e1:=E1 g ij ⟨qa,lf,[]⟩ (by simp only;omega)
   have e2:=E2 g ij ⟨qa,lf,[]⟩ (by simp only;omega)
   simp only[ps,Ps.row,ints,List.map_nil]at hS il e1 e2;simp (config:={ maxSteps:=2000000 }) +contextual (disch:=omega) [-getElem?_pos,-List.length_eq_zero_iff,-Int.natCast_eq_zero,wrap64,mr,NM,L8,h1,Tl,n1,n2,hS,il,nO,hree,hcme,oR,r0,hi,OB,oP,aj3,zR,HU,kT,hqa,ph,e1,e2,rM,ap5,ap6]
  ·have rM:0<re.length:=by cases re with|nil=>simp at hree|cons=>simp
   have OB:¬ (re.length:Int)=0:=by omega
   obtain⟨i,hi,Ji⟩:=NC (a:=at_) (n:=re.length) ha.1 (by omega)
   obtain⟨qa,hqa⟩:∃qa,re.set i (spU (nth re i) (IntKind.i64.wrap ((nth re i).spi+w)))=qa:=⟨_,rfl⟩;have ph:qa.length=re.length:=by rw[←hqa];simp
   have e1:=E1 g ij ⟨qa,lf,cm⟩ (by simp only;omega)
   have e2:=E2 g ij ⟨qa,lf,cm⟩ (by simp only;omega)
   simp only[ps,Ps.row,ints,List.map_nil]at hS il e1 e2;simp (config:={ maxSteps:=2000000 }) +contextual (disch:=omega) [-getElem?_pos,-List.length_eq_zero_iff,-Int.natCast_eq_zero,wrap64,mr,NM,L8,h1,Tl,n1,n2,hS,il,nO,hree,hcme,oR,r0,hi,OB,oP,aj3,zR,HU,kT,hqa,ph,e1,e2,rM,ap5,ap6]
 ·rcases BS with⟨rfl,hree⟩ | hree<;>rcases ahg with⟨rfl,hcme⟩ | hcme
  ·have rM:g.d.length=0:=by simp at yh;omega
   have e1:=E1 g ij ⟨[],lf,[]⟩ (by simp only;omega)
   have e2:=E2 g ij ⟨[],lf,[]⟩ (by simp only;omega)
   simp only[ps,Ps.row,ints,List.map_nil]at hS il e1 e2;simp (config:={ maxSteps:=2000000 }) +contextual (disch:=omega) [-getElem?_pos,-List.length_eq_zero_iff,-Int.natCast_eq_zero,wrap64,mr,NM,L8,h1,Tl,n1,n2,hS,il,nO,hree,hcme,oR,r0,OB,oP,aj3,zR,HU,kT,e1,e2,rM];exact HF
  ·have rM:g.d.length=0:=by simp at yh;omega
   have e1:=E1 g ij ⟨[],lf,cm⟩ (by simp only;omega)
   have e2:=E2 g ij ⟨[],lf,cm⟩ (by simp only;omega)
   simp only[ps,Ps.row,ints,List.map_nil]at hS il e1 e2;simp (config:={ maxSteps:=2000000 }) +contextual (disch:=omega) [-getElem?_pos,-List.length_eq_zero_iff,-Int.natCast_eq_zero,wrap64,mr,NM,L8,h1,Tl,n1,n2,hS,il,nO,hree,hcme,oR,r0,OB,oP,aj3,zR,HU,kT,e1,e2,rM];exact HF
  ·have rM:0<re.length:=by cases re with|nil=>simp at hree|cons=>simp
   have rM:0<g.d.length:=by omega
   have OB:¬ (g.d.length:Int)=0:=by omega
   obtain⟨i,hi,Ji⟩:=NC (a:=at_) (n:=g.d.length) ha.1 (by omega)
   obtain⟨qa,hqa⟩:∃qa,g.d.set i (vU (nth g.d i) (IntKind.i64.wrap ((nth g.d i).v+w)))=qa:=⟨_,rfl⟩;have ph:qa.length=g.d.length:=by rw[←hqa];simp
   have e1:=E1 ⟨g.t,qa,g.w⟩ (fun i=>ij i) ⟨re,lf,[]⟩ (by simp only;omega)
   have e2:=E2 ⟨g.t,qa,g.w⟩ (fun i=>ij i) ⟨re,lf,[]⟩ (by simp only;omega)
   simp only[ps,Ps.row,ints,List.map_nil]at hS il e1 e2;simp (config:={ maxSteps:=2000000 }) +contextual (disch:=omega) [-getElem?_pos,-List.length_eq_zero_iff,-Int.natCast_eq_zero,wrap64,mr,NM,L8,h1,Tl,n1,n2,hS,il,nO,hree,hcme,oR,r0,hi,OB,oP,aj3,zR,HU,kT,hqa,ph,e1,e2,rM,ap9,aqa]
  ·have rM:0<re.length:=by cases re with|nil=>simp at hree|cons=>simp
   have rM:0<g.d.length:=by omega
   have OB:¬ (g.d.length:Int)=0:=by omega
   obtain⟨i,hi,Ji⟩:=NC (a:=at_) (n:=g.d.length) ha.1 (by omega)
   obtain⟨qa,hqa⟩:∃qa,g.d.set i (vU (nth g.d i) (IntKind.i64.wrap ((nth g.d i).v+w)))=qa:=⟨_,rfl⟩;have ph:qa.length=g.d.length:=by rw[←hqa];simp
   have e1:=E1 ⟨g.t,qa,g.w⟩ (fun i=>ij i) ⟨re,lf,cm⟩ (by simp only;omega)
   have e2:=E2 ⟨g.t,qa,g.w⟩ (fun i=>ij i) ⟨re,lf,cm⟩ (by simp only;omega)
   simp only[ps,Ps.row,ints,List.map_nil]at hS il e1 e2;simp (config:={ maxSteps:=2000000 }) +contextual (disch:=omega) [-getElem?_pos,-List.length_eq_zero_iff,-Int.natCast_eq_zero,wrap64,mr,NM,L8,h1,Tl,n1,n2,hS,il,nO,hree,hcme,oR,r0,hi,OB,oP,aj3,zR,HU,kT,hqa,ph,e1,e2,rM,ap9,aqa]
 ·obtain⟨qa,hqa⟩:∃qa,lf.take (lf.length-1)=qa:=⟨_,rfl⟩
  have ph:qa.length=lf.length-1:=by rw[←hqa];simp
  have hmt:List.take (lf.length-1) (List.map (fun n=>[V.int .i64 n]) lf)=List.map (fun n=>[V.int .i64 n]) qa:=by rw[←hqa,List.map_take]
  rcases BS with⟨rfl,hree⟩ | hree<;>rcases ahg with⟨rfl,hcme⟩ | hcme
  ·have e1:=E1 g ij ⟨[],qa,[]⟩ (by simp only;omega)
   have e2:=E2 g ij ⟨[],qa,[]⟩ (by simp only;omega)
   simp only[ps,Ps.row,ints,List.map_nil]at hS il e1 e2;simp (config:={ maxSteps:=2000000 }) +contextual (disch:=omega) [-getElem?_pos,-List.length_eq_zero_iff,-Int.natCast_eq_zero,wrap64,mr,NM,L8,h1,Tl,n1,n2,hS,il,nO,hree,hcme,oR,r0,OB,oP,aj3,zR,HU,kT,hmt,ph,e1,e2]
  ·have e1:=E1 g ij ⟨[],qa,cm⟩ (by simp only;omega)
   have e2:=E2 g ij ⟨[],qa,cm⟩ (by simp only;omega)
   simp only[ps,Ps.row,ints,List.map_nil]at hS il e1 e2;simp (config:={ maxSteps:=2000000 }) +contextual (disch:=omega) [-getElem?_pos,-List.length_eq_zero_iff,-Int.natCast_eq_zero,wrap64,mr,NM,L8,h1,Tl,n1,n2,hS,il,nO,hree,hcme,oR,r0,OB,oP,aj3,zR,HU,kT,hmt,ph,e1,e2]
  ·have e1:=E1 g ij ⟨re,qa,[]⟩ (by simp only;omega)
   have e2:=E2 g ij ⟨re,qa,[]⟩ (by simp only;omega)
   simp only[ps,Ps.row,ints,List.map_nil]at hS il e1 e2;simp (config:={ maxSteps:=2000000 }) +contextual (disch:=omega) [-getElem?_pos,-List.length_eq_zero_iff,-Int.natCast_eq_zero,wrap64,mr,NM,L8,h1,Tl,n1,n2,hS,il,nO,hree,hcme,oR,r0,OB,oP,aj3,zR,HU,kT,hmt,ph,e1,e2]
  ·have e1:=E1 g ij ⟨re,qa,cm⟩ (by simp only;omega)
   have e2:=E2 g ij ⟨re,qa,cm⟩ (by simp only;omega)
   simp only[ps,Ps.row,ints,List.map_nil]at hS il e1 e2;simp (config:={ maxSteps:=2000000 }) +contextual (disch:=omega) [-getElem?_pos,-List.length_eq_zero_iff,-Int.natCast_eq_zero,wrap64,mr,NM,L8,h1,Tl,n1,n2,hS,il,nO,hree,hcme,oR,r0,OB,oP,aj3,zR,HU,kT,hmt,ph,e1,e2]
end Go.Proofs.YtmpikpodpgnjhaaGreat
namespace Go.Proofs.YtmpikpodpgnjhaaGreat
set_option linter.all false
open Go.Vm Go.Shelf Go.RowKit Go.Lib
theorem aiF{w:World}{b:Nat}{c:Array Value}{e:TypeId}{d:Array Int}(hb:w.heap[b]?=some (.cells c e (0,0))) :
  (Go.Sort.putRow (Value.int .i64) w b 0 d).heap[b]?=some (.cells (Go.Sort.putCells (Value.int .i64) 0 d c) e (0,0)):=by
 simp[Go.Sort.putRow,Go.Sort.mapBlock,Array.getElem?_modify,hb,Go.Sort.onCells]
theorem aiG{w:World}{b i:Nat}{d:Array Int}(h:i≠b):(Go.Sort.putRow (Value.int .i64) w b 0 d).heap[i]?=w.heap[i]?:=by
 simp[Go.Sort.putRow,Go.Sort.mapBlock,Array.getElem?_modify,Ne.symm h]
theorem HJ{c:Array Value}{d:Array Int}{j:Nat}:(Go.Sort.putCells (Value.int .i64) 0 d c)[j]?=if j<d.size then (c[j]?).map fun _=>.int .i64 d[j]! else c[j]?:=by
 simp only[Go.Sort.putCells,Array.getElem?_mapIdx,Nat.zero_le,true_and,Nat.zero_add,Nat.sub_zero];split
 ·rfl
 ·cases c[j]?<;>rfl
theorem holds_of{w:World}{b:Nat}{c:Array Value}{e:TypeId}{zs:List Int}(hb:w.heap[b]?=some (.cells c e (0,0)))(hc:∀(j:Nat) z,zs[j]?=some z→c[j]?=some (.int .i64 z)) :
  Go.Sort.Holds (Value.int .i64) w b 0 zs.toArray:=by
 intro j hj;have sd:j<zs.length:=by simpa using hj
 have h1:=hc j zs[j] (List.getElem?_eq_getElem sd);constructor
 ·simp only[World.cell?,hb,Nat.zero_add,h1]
  simp[sd]
 ·simp[World.frozen?,hb]
theorem US{w w':World}{b:Nat}{c:Array Value}{e:TypeId}{d:Array Int}{n:Nat}{os:Array Obj}(hb:w.heap[b]?=some (.cells c e (0,0)))(hw:w'=Go.Sort.grow (Go.Sort.putRow (Value.int .i64) (Go.Sort.ahead w n) b 0 d) os) :
  Written w w' b (Go.Sort.putCells (Value.int .i64) 0 d c) e:=by
 subst hw;have bG:b<w.heap.size:=(Array.getElem?_eq_some_iff.1 hb).1;have hs:(Go.Sort.putRow (Value.int .i64) (Go.Sort.ahead w n) b 0 d).heap.size=w.heap.size:=by simp
 refine⟨rfl,rfl,rfl,by simp,fun i hi tQ=>?_,?_⟩
 ·rw[Go.Sort.heap_grow_old _ _ (by rw[hs];exact tQ),aiG hi];rfl
 ·rw[Go.Sort.heap_grow_old _ _ (by rw[hs];exact bG)]
  exact aiF (w:=Go.Sort.ahead w n) hb
def kf:Int→List Int→List Int
 |_,[]=>[]
 |p,a::l=>if a=p then kf a l else a::kf a l
theorem Nc:∀(x:Int) (l:List Int),dedup (x::l)=x::kf x l
 |_,[]=>rfl
 |x,y::r=>by
  have ih:=Nc y r;simp only[dedup,kf];by_cases h:x=y
  ·subst h
   simp[ih]
  ·have h':(x==y)=false:=by simpa using h
   have h2:¬y=x:=fun e=>h e.symm;simp[h',h2,ih]
theorem UT(a:Int):∀(p:Int) (l:List Int),kf p (l++[a])=kf p l++(if a=l.getLastD p then [] else [a])
 |p,[]=>by simp[kf]
 |p,b::l=>by
  have ih:=UT a b l;have e:(b::l).getLastD p=l.getLastD b:=by cases l<;>rfl
  rw[e,List.cons_append,kf,kf,ih];split<;>simp
theorem UU{zs:List Int}:∀{m:Nat},m≤zs.length→compactUpTo zs.toArray m=dedup (zs.take m)
 |0,_=>by simp[compactUpTo,dedup]
 |m+1,h=>by
  have ih:=UU (zs:=zs) (m:=m) (by omega)
  have e:compactUpTo zs.toArray (m+1)=compactUpTo zs.toArray m++(if keeps zs.toArray m then [zs.toArray[m]!] else []):=by
   simp only[compactUpTo,List.range_succ,List.filter_append,List.map_append];congr 1;by_cases hk:keeps zs.toArray m=true<;>simp[hk]
  have hm:zs.toArray[m]! = nth zs m:=by simp[nth,h]
  rw[e,ih,hm,List.take_add_one,bo h];cases m with
  |zero =>
   rw[if_pos (keeps_lt_one _ 0 (by omega))]
   simp[dedup]
  |succ m =>
   have sD:zs.toArray[m]! = nth zs m:=by simp[nth,show m<zs.length by omega]
   cases hz:zs with
   |nil=>rw[hz]at h;simp at h
   |cons x r =>
    rw[hz]at h hm sD;simp only[List.length_cons]at h;have UR:(r.take m).getLastD x=nth (x::r) m:=by
     rw[List.getLastD_eq_getLast?,List.getLast?_take];cases m with
     |zero=>simp[nth]
     |succ m =>
      have:m<r.length:=by omega
      simp[nth,this]
    simp only[List.take_succ_cons,Option.toList_some];rw[Nc,List.cons_append,List.cons_append,Nc,UT,UR];by_cases hk:nth (x::r) (m+1)=nth (x::r) m
    ·rw[keeps_neg (by omega) (by simp only[Nat.add_sub_cancel];rw[hm,sD,hk])]
     simp[hk]
    ·rw[keeps_pos (by simp only[Nat.add_sub_cancel];rw[hm,sD];exact hk)]
     simp[hk]
theorem aiH(zs:List Int):compactUpTo zs.toArray zs.toArray.size=dedup zs:=by
 have:=UU (zs:=zs) (m:=zs.length) (Nat.le_refl _)
 rwa [List.take_length]at this
theorem aiI:pU Tryz.prog 0 229 where
 fn:=⟨_,Tryz.func229,by kernel_rfl,by kernel_rfl⟩
 run:=fun w b cap zs c e hb hc h1 h2 h3=>by
  have h3:zs.length≤4294967296:=h3;have bG:b<w.heap.size:=(Array.getElem?_eq_some_iff.1 hb).1;refine(AnyM.slices_Sort_int Tryz.agG b 0 cap zs w (holds_of hb hc) bG (by omega)).mono fun r w' ⟨hr,n,os,hw⟩=>?_
  have hl:=(xd zs).length_eq;rw[←ZP]at hw;refine⟨hr,_,US hb hw,by simp[Go.Sort.putCells],fun j z hz=>?_,fun j hj=>?_⟩
  ·have Nd:(mH zs)[j]?=some z:=hz
   have hj:=eZ Nd;rw[HJ,if_pos (by simpa using hj)]
   have Ai:j<c.size:=by omega
   simp only[Array.getElem?_eq_getElem Ai,Option.map_some];congr 2;rw[List.getElem?_eq_getElem hj]at Nd;cases Nd;simp[hj]
  ·rw[HJ,if_neg (by simp;omega)]
theorem aiJ:pU Tryz.prog 1 230 where
 fn:=⟨_,Tryz.func230,by kernel_rfl,by kernel_rfl⟩
 run:=fun w b cap zs c e hb hc h1 h2 h3=>by
  have h3:zs.length≤4294967296:=h3;have bG:b<w.heap.size:=(Array.getElem?_eq_some_iff.1 hb).1;refine(AnyE.slices_Compact Tryz.agI (Value.int .i64) (fun _=>rfl) (EqlAt.intD _ _ .i64) (NeqAt.intD _ _ .i64) 0 Tryz.zeroValue3 b 0 cap zs.toArray w (holds_of hb hc) (by simp;omega) (by simpa using h1)).mono fun r w' ⟨hr,n,hw⟩=>?_
  rw[aiH]at hr hw;have hd:=A2 zs;have ru:w'=Go.Sort.grow (Go.Sort.putRow (Value.int .i64) (Go.Sort.ahead w n) b 0 (rU 1 zs).toArray) #[]:=by
   rw[Go.Sort.grow_empty];exact hw
  refine⟨hr,_,US hb ru,by simp[Go.Sort.putCells],fun j z hz=>?_,fun j hj=>?_⟩
  ·have hj:=eZ hz
   have hl:=Kw 1 zs;rw[HJ,if_pos (by simpa using hj)]
   have Ai:j<c.size:=by omega
   simp only[Array.getElem?_eq_getElem Ai,Option.map_some];congr 2;rw[List.getElem?_eq_getElem hj]at hz;cases hz;simp[hj]
  ·have hl:=Kw 1 zs
   rw[HJ,if_neg (by simp;omega)]
theorem aiK:Kx Tryz.prog 146 where
 fn:=⟨_,Tryz.func146,by kernel_rfl,by kernel_rfl⟩
 run:=fun w n h0 hl=>by
  obtain⟨k,rfl⟩:=Int.eq_ofNat_of_zero_le h0;have hl:(k:Int)≤4294967296:=hl;have hi:(Tryz.prog.info? 3).map (fun i=>(i.zero,i.size,i.bytes))=some (some (.int .i64 0),1,8):=by kernel_rfl
  obtain⟨i0,hi,he⟩:=Option.map_eq_some_iff.1 hi;simp only[Prod.mk.injEq]at he;obtain⟨hz,hs,hb⟩:=he;by_cases hk:k=0
  ·subst hk
   exact(Any8.slices_Grow_room Tryz.Tk none 0 0 0 w (by omega) (by omega) (by omega) (by omega)).mono fun r w' h=>.inl h
  ·refine(Any8.slices_Grow_grow Tryz.Tk i0 (.int .i64 0) hi hz (by omega) none 0 0 k [] w (by omega) (by omega) (by rw[hb];omega) (by omega) (by simp) (fun _=>rfl) (fun a h=>by cases h)).mono fun r w' h=>?_
   obtain⟨rfl,rfl⟩:=h;exact .inr ⟨_,_,_,rfl,rfl,rfl,rfl,rfl,by
    have:=grownCap_ge w (0+k) 0 (Tryz.Tj.t 25);simp[Builtin.zeroCells,Value.cells];omega⟩
theorem aiL(f k:Nat)(h:Go.Vm.look f bS=some k):pU Tryz.prog k f:=by
 simp only[bS,Go.Vm.look]at h;by_cases h0:(146==f)=true
 ·rw[h0]at h
  cases h;have:=eq_of_beq h0;subst this;exact aiK
 rw[Bool.eq_false_iff.2 h0]at h;by_cases h1:(229==f)=true
 ·rw[h1]at h
  cases h;have:=eq_of_beq h1;subst this;exact aiI
 ·rw[Bool.eq_false_iff.2 h1]at h
  by_cases h2:(230==f)=true
  ·rw[h2]at h
   cases h;have:=eq_of_beq h2;subst this;exact aiJ
  ·rw[Bool.eq_false_iff.2 h2]at h
   cases h
end Go.Proofs.YtmpikpodpgnjhaaGreat
namespace Go.Proofs.YtmpikpodpgnjhaaGreat
set_option linter.all false
open Go.Vm
open Go.ChangeShapes Go.WideShapes Go.ChangeAt Go.RowKit
theorem Tryz.own:ownKnob Tryz.prog.godebug=none:=by kernel_rfl
theorem Tryz.laidOut:laidOutB Tryz.prog=true:=by kernel_rfl
theorem aiM:oN Tryz.prog (bt F):=YX (CV aiL Tryz.checked.mixed agE)
end Go.Proofs.YtmpikpodpgnjhaaGreat

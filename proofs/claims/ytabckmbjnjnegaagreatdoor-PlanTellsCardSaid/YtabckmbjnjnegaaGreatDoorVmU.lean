/- - -/
import Derived.Test.YtabckmbjnjnegaaGreatDoorVmO
namespace Go.Vm
set_option linter.all false
section
variable {P:Program} {E:Entry} {g g':Gh} {S S':St} {a:Act} {w w':World}
variable{c:Array Value}
def Oh{cs:List V}{X:Cx}(hj:∀(j:Nat) (v:V),cs[j]?=some v->v.c5=true/\∃y,c[j]?=some y/\bh X v y):cs.length<=c.size:=by
 rcases cS c.size cs.length with h|h
 .obtain⟨_,y,hy,_⟩:=hj c.size cs[c.size] (eV h)
  simp at hy
 .exact h
variable{src:Option Nat}
def apZ(hR:R E g S a w){b:V}{y:Value}{us:List V}(hr:bh (S.cx g w) b y)(h:S.A8 src b=some us):∃base cap,y=.slice base us.length cap /\
  (us≠[]->∃(ad:Addr) (l:List Value),base=some ad/\l.length=us.length/\(∀(j:Nat) (z:Value),l[j]?=some z->w.cell? (ad.add j)=some z)/\∀(j:Nat) (u:V) (z:Value),us[j]?=some u->l[j]?=some z->bh (S.cx g w) u z):=by
 unfold St.A8 at h;split at h
 .cases h;exact⟨none,0,qK hr,λh=>absurd rfl h⟩
 .cases h
  rcases wF hr with e | ⟨ad,e⟩
  .exact⟨none,0,e,λh=>absurd rfl h⟩
  .exact⟨some ad,0,e,λh=>absurd rfl h⟩
 .cases h
  obtain⟨ad,cap,e⟩:=JA hr;exact⟨some ad,cap,e,λh=>absurd rfl h⟩
 next tk n es=>
  cases hn:n==1 with
  |false=>simp[hn]at h
  |true =>
   simp only[hn,bW,Option.some.injEq]at h;have:=eq_of_beq hn;subst this;subst h;cases hr with
   |plain hv _ =>
    rcases Nx hv with⟨rfl,e⟩ | ⟨rfl,ad,cap,e⟩ | ⟨q,off,cap,l,e,_,hc,hl⟩
    .exact⟨none,0,e,λh=>absurd rfl h⟩
    .exact⟨some ad,cap,e,λh=>absurd rfl h⟩
    .obtain⟨f1,f2⟩:=Bu hl
     have la:=hl.len;refine⟨_,cap,by rw[f1,la,Gz];exact e,λ_=>⟨_,l,rfl,f1.symm,λj z hj=>?_,λj u z hu hz=>?_⟩⟩
     .rw[lS,cell?_eq];exact hc j z hj
     .obtain⟨q1,z',q2,q3⟩:=f2 j u hu
      rw[hz]at q2;cases q2;exact .plain q3 (wG q1)
 next id s n=>
  split at h
  next cs ho=>
   cases hc:(src==some id&&(s==1)&&Nat.ble n cs.length) with
   |false=>simp[hc]at h
   |true =>
    simp only[hc,bW,Option.some.injEq]at h;simp only[bZ,ec]at hc;obtain⟨⟨rfl,rfl⟩,hle⟩:=hc;simp only at ho;have hle:=js hle;subst h;have hlen:(cs.take n).length=n:=by simp;omega
    rcases tH hr with⟨cap,eM,gM,e⟩ | ⟨rfl,hz,_⟩
    .refine⟨_,cap,by rw[hlen];exact e,λcy=>?_⟩
     rcases hR.aY id cs ho with⟨h0,_⟩ | ⟨_,_,_,c,et,hh,_,hj⟩
     .subst h0;simp at cy
     have eR:=Oh hj;refine⟨_,c.toList.take n,rfl,by simp;omega,λj z AD=>?_,λj u z hu hz=>?_⟩
     .rw[lS,cell?_eq]
      show cellAt w.heap (g.κ id) _=_;rw[mn hh];rw[jP]at AD;split at AD
      .simpa using AD
      .cases AD
     .rw[jP]at hu hz
      split at hu
      next bJ=>
       rw[aJ bJ]at hz;obtain⟨_,z',q2,q3⟩:=hj j u hu;have hz:c[j]?=some z:=by simpa using hz
       rw[hz]at q2;cases q2;exact q3
      .cases hu
    .rcases hz with e | ⟨ad,e⟩
     .exact⟨none,0,by simpa using e,λh=>absurd (by simp) h⟩
     .exact⟨some ad,0,by simpa using e,λh=>absurd (by simp) h⟩
  .cases h
 next id s off n=>
  split at h
  next cs ho=>
   cases hc:(src==some id&&(s==1)&&Nat.ble (off+n) cs.length) with
   |false=>simp[hc]at h
   |true =>
    simp only[hc,bW,Option.some.injEq]at h;simp only[bZ,ec]at hc;obtain⟨⟨rfl,rfl⟩,hle⟩:=hc;simp only at ho;have hle:=js hle;subst h;have hlen:((cs.drop off).take n).length=n:=by simp;omega
    obtain⟨cap,eM,e⟩:=al8 hr;refine⟨_,cap,by rw[hlen];exact e,λcy=>?_⟩
    rcases hR.aY id cs ho with⟨h0,_⟩ | ⟨_,_,_,c,et,hh,_,hj⟩
    .subst h0;simp at cy
    have eR:=Oh hj;refine⟨_,(c.toList.drop off).take n,rfl,by simp;omega,λj z AD=>?_,λj u z hu hz=>?_⟩
    .rw[lS,cell?_eq]
     show cellAt w.heap (g.κ id) _=_;rw[mn hh];rw[jP]at AD;split at AD
     .rw[mJ]at AD
      simpa using AD
     .cases AD
    .rw[jP]at hu hz
     split at hu
     next bJ=>
      rw[aJ bJ]at hz;rw[mJ]at hu hz;obtain⟨_,z',q2,q3⟩:=hj _ u hu;have hz:c[off+j]?=some z:=by simpa using hz
      rw[hz]at q2;cases q2;exact q3
     .cases hu
  .cases h
 .cases h
variable{ty e:TypeId}
def ap0{dT sT:TypeId}(ht:P.underlying dT=some (.slice e))(hs:fD P e=some 1)(base:Option Addr)(dl dc:Nat)(JO:Option Addr)(sl sc:Nat)(h:Nat.min sl dl=0) :
  (Builtin.copy_ #[dT,sT] ty #[.slice base dl dc,.slice JO sl sc]).run P w=.ok (goInt 0) w:=by
 have hu:=kg (P:=P) (w:=w) ht;have hz:=qL (P:=P) (w:=w) hs;cases JO<;>cases base<;>simp[Builtin.copy_,hu,hz,Builtin.lenOf,h,Builtin.firstCells,loadCells,loadCellsFrom,storeCells]
variable{o:Oper}{t:TypeId}{p:Operand}
def anz{t2:TypeId}{q:Operand}{NR:Nat}{x y:bG}{C:bI}(ho:o.op=.call ⟨.builtin .copy,#[p,q],#[t,t2]⟩)(ht:P.underlying t=some (.slice e))(hs:fD P e=some 1)
  (hp:cc p x=true) (hq:cc q y=true) (hR:R E g S a w) (hd:∀d,o.dst=some d->d<E.nt) (hrun:VO.run C o.dst S (.yG NR src x y)=some S'):cC P E o S S' a w:=by
 have fR:∀w,(execOp a.eval o).run P w=((Builtin.copy_ #[t,t2] o.type #[a.eval p,a.eval q]).run P w).andThen λv w=>.ok (.value v) w:=λw=>by
  simp[execOp,ho,resolve,invoke,builtin]
 simp only[VO.run]at hrun;split at hrun
 next id s n b hx hy=>
  split at hrun
  next cs us N9 qN=>
   cases hc:(id==NR&&(s==1)&&Nat.ble n cs.length&&us.all V.sc) with
   |false=>simp[hc]at hrun
   |true =>
    simp only[hc,bW]at hrun;cases hrun;simp only[bZ,ec,iW]at hc;obtain⟨⟨⟨rfl,rfl⟩,hle⟩,E6⟩:=hc;have ky:∀u∈us,u.c5=true:=λu hu=>by have:=E6 u hu;cases u<;>simp_all[V.sc,V.c5]
    have hle:=js hle;obtain⟨base,ap2,e2,NB⟩:=apZ hR (di hR hq hy) qN;have hk:(us.take n).length=Nat.min us.length n:=by simp[Nat.min_comm]
    by_cases h0:Nat.min us.length n=0
    .have ht0:us.take n=[]:=pz.1 (hk.trans h0)
     rw[ht0];simp only[tB,tA,vr];obtain⟨acF,dl,dc,e1,EZ⟩:∃acF dl dc,a.eval p=.slice acF dl dc/\dl=n:=by
      rcases tH (di hR hp hx) with⟨cap,_,_,e1⟩ | ⟨rfl,e1 | ⟨ad,e1⟩,_⟩
      .exact⟨_,_,_,e1,rfl⟩
      .exact⟨_,_,_,e1,rfl⟩
      .exact⟨_,_,_,e1,rfl⟩
     subst EZ;have sd:R E g { S with aY:=(id,cs)::S.aY } a w:=⟨hR.env,λi ei hi=>by
      have hi:look i ((id,cs)::S.aY)=some ei:=hi;rw[dO]at hi;by_cases kK:id=i
      .subst kK
       rw[aJ rfl]at hi;cases hi;exact hR.aY id cs N9
      .rw[ax kK]at hi
       exact hR.aY i ei hi,hR.bo,hR.aC,hR.defers,hR.kr,hR.same⟩
     refine cC.value (x:=goInt 0) (w':=w) (g':=g) ?_ (sd.put hd (bh.int _ _));rw[fR,e1,e2,ap0 ht hs _ _ _ _ _ _ h0];rfl
    .have cy:us≠[]:=λe=>h0 (by subst e;simp)
     obtain⟨ad,l,rfl,la,pL,sV⟩:=NB cy;have Aj:n≠0:=λe=>h0 (by subst e;simp)
     obtain⟨cap,eM,gM,e1⟩:=(tH (di hR hp hx)).resolve_right (λh=>Aj h.1);obtain⟨cJ,hH,hm,c,et,hh,ap4,hj⟩:=(hR.aY id cs N9).resolve_left (λh=>by have:=h.1;subst this;simp at hle;exact Aj hle)
     have eR:=Oh hj;have HJ:(l.take n).length=Nat.min us.length n:=by simp[la,Nat.min_comm]
     have gy:0+(l.take n).length<=c.size:=by rw[HJ];have h3:Nat.min us.length n<=n:=Nat.min_le_right _ _;omega
     have h1:∀z∈l.take n,z.oneCell'=true:=λz hz=>by
      obtain⟨j,qY⟩:=lN.1 (Ek hz);have tL:=fg qY;have hju:j<us.length:=by omega
      exact Sc (sV j us[j] z (eV hju) qY) (ky _ (Jm hju))
     have hrun:=run_copy_row (P:=P) w t t2 o.type e (g.κ id) 0 n cap ad us.length ap2 c et (l.take n) ht hs hh HJ (λj v qY=>pL j v (by
      rw[jP]at qY;split at qY
      .exact qY
      .cases qY)) gy h1
     let c':Array Value:=(c.toList.take 0++l.take n++c.toList.drop (0+(l.take n).length)).toArray
     have mq:(w.setRow (g.κ id) c').heap[g.κ id]?=some (.cells c' et (0,0)):=setRow_heap w _ c c' et _ hh;have tt:=GU (c':=c') (S:=S) (w:=w) hm (.inl hH) (λ_ _ e=>by rw[cJ]at e;cases e) hR
     have zb:∀i,ke (S.cx g w) ⟨(w.setRow (g.κ id) c').heap,g,S.aC.length,S.bo⟩ i:=λi=>tt.keeps hR (λe=>by cases e) (λe=>by cases e) (λ_ e=>by rw[cJ]at e;cases e)
     have sd:R E g { S with aY:=(id,us.take n++cs.drop (us.take n).length)::S.aY } a (w.setRow (g.κ id) c'):=R.qk (S':={ S with aY:=(id,us.take n++cs.drop (us.take n).length)::S.aY }) tt hR rfl rfl (λi=>.inl (zb i)) (λs v hs=>.inl hs) (λi ei hi=>by
       have hi:look i ((id,us.take n++cs.drop (us.take n).length)::S.aY)=some ei:=hi;rw[dO]at hi;by_cases kK:id=i
       .subst kK
        rw[aJ rfl]at hi;cases hi;refine .inr ⟨cJ,hH,hm,c',et,mq,(by rw[show c'.size=c.size from GS gy];exact ap4),λj u hu=>?_⟩
        show _/\∃y,c'[j]?=some y/\_;rw[show c'[j]?=_ from C5 gy j];rw[rP]at hu;split at hu
        next bJ=>
         have acH:j<(l.take n).length:=by omega
         rw[aJ']
         simp only[Ab];have OT:us[j]?=some u:=by
          rw[jP]at hu;split at hu
          .exact hu
          .cases hu
         have EC:l[j]?=some (l.take n)[j]:=by
          have:=eV acH;rw[jP]at this;split at this
          .exact this
          .cases this
         exact⟨ky u (gw OT),_,eV acH,(sV j u _ OT EC).mono tt.le (λi=>.inl (zb i))⟩
        next bJ=>
         rw[ax']
         rw[mJ,show(us.take n).length+(j-(us.take n).length)=j from by omega]at hu
         obtain⟨q1,y,q2,q3⟩:=hj j u hu;exact⟨q1,y,q2,q3.mono tt.le (λi=>.inl (zb i))⟩
       .rw[ax kK]at hi
        exact .inl ⟨hi,(λe=>by cases e),λ_ e=>kK (by rw[cJ]at e;cases e;rfl)⟩)
      (λf k b hf hb=>.inl ⟨(λe=>by cases e),λ_ e=>by rw[cJ]at e;cases e⟩)
      (λi o hi=>.inl ⟨hi,λ_=>⟨λe=>(by rw[cJ]at e;cases e),λ_ e=>(by rw[cJ]at e;cases e)⟩⟩)
     refine cC.value (x:=goInt (l.take n).length) (w':=w.setRow (g.κ id) c') (g':=g) ?_ (sd.put hd (by rw[hk,HJ];exact bh.int _ _))
     have e1:a.eval p=.slice (some ⟨g.κ id,0,none⟩) n cap:=e1;rw[fR,e1,e2,hrun];rfl
  .cases hrun
 .cases hrun
variable{ie:TypeInfo}{n:Nat}
def ap5(ht:P.underlying t=some (.slice e))(hi:P.info? e=some ie)(hz:ie.zero=some (.int .i64 0)){b o cap:Nat}{et:TypeId}(hb:w.heap[b]?=some (.cells c et (0,0)))
  (hn:0<n) (gy:o+n<=c.size) :
  (Builtin.clear_ #[t] ty #[.slice (some ⟨b,o,none⟩) n cap]).run P w=.ok (.tuple #[]) (w.setRow b (c.toList.take o++List.replicate n (Value.int .i64 0)++c.toList.drop (o+n)).toArray):=by
 have hzc:(Builtin.zeroCells (Value.int .i64 0).cells n).toList=List.replicate n (.int .i64 0):=by
  simp[Builtin.zeroCells,Value.cells];refine RS (by simp) λi h1 h2=>?_
  simp[Nat.mod_one]
 have eI:=run_storeCells_at P b o et (List.replicate n (Value.int .i64 0)) 0 c w hb (by simp;omega) (λy hy=>by rw[(Zx.1 hy).2];rfl)
 simp only[yA,Jo]at eI;obtain⟨m,rfl⟩:∃m,n=m+1:=⟨n-1,by omega⟩
 simp[Builtin.clear_,kg ht,zeroValue,typeInfo,hi,hz,hzc,eI]
def ap7{X:Cx}{v:V}{x:Value}{i off:Nat}(h:bh X v x)(hp:v.part=some (i,off,n))(hn:0<n):i<X.N/\∃cap,n<=cap/\x=.slice (some ⟨X.g.γ i,off,none⟩) n cap:=by
 unfold V.part at hp;split at hp
 .cases hp
  obtain⟨h1,⟨cap,h2,h3⟩ | ⟨h0,_⟩⟩:=GM h
  .exact⟨h1,cap,h2,h3⟩
  .omega
 .cases hp
  obtain⟨h1,cap,h2,h3⟩:=al7 h;exact⟨h1,cap,h2,by simpa using h3⟩
 .cases hp
def anA{x:bG}{C:bI}(ho:o.op=.call ⟨.builtin .clear,#[p],#[t]⟩)(ht:P.underlying t=some (.slice e))(hi:P.info? e=some ie)(hz:ie.zero=some (.int .i64 0))
  (hp:cc p x=true) (hR:R E g S a w) (hd:∀d,o.dst=some d->d<E.nt) (hrun:VO.run C o.dst S (.yH x)=some S'):cC P E o S S' a w:=by
 have fR:(execOp a.eval o).run P w=((Builtin.clear_ #[t] o.type #[a.eval p]).run P w).andThen λv w=>.ok (.value v) w:=by
  simp[execOp,ho,resolve,invoke,builtin]
 simp only[VO.run]at hrun;split at hrun
 next v hx=>
  split at hrun
  next G hG=>
   cases hrun;cases UG:v.part with
   |none=>rw[UG]at hG;cases hG
   |some q =>
    obtain⟨i,off,n⟩:=q;rw[UG]at hG;simp only[Jx]at hG;split at hG
    next cs fb=>
     cases hc:(Nat.ble (off+n) cs.length&&Nat.blt 0 n) with
     |false=>simp[hc]at hG
     |true =>
      simp only[hc,bW,Option.some.injEq]at hG;subst hG;simp only[bZ]at hc;have hle:=js hc.1;have hn:0<n:=by simpa [CN] using hc.2
      obtain⟨_,cap,eM,ep⟩:=ap7 (di hR hp hx) UG hn;have ep:a.eval p=.slice (some ⟨g.γ i,off,none⟩) n cap:=ep;have cy:cs≠[]:=λe=>by subst e;simp at hle;omega
      obtain⟨cJ,hm,c,et,hh,dS,hj⟩:=(hR.aC.obj i _ fb).resolve_left (λe=>cy (by cases e;rfl))
      have sY:=fg fb;have gy:off+(List.replicate n (Value.int .i64 0)).length<=c.size:=by simp;omega
      have hrun:=ap5 (P:=P) (w:=w) (ty:=o.type) (cap:=cap) ht hi hz hh hn (by omega:off+n<=c.size)
      let c':Array Value:=(c.toList.take off++List.replicate n (Value.int .i64 0)++c.toList.drop (off+(List.replicate n (Value.int .i64 0)).length)).toArray
      have hrun:(Builtin.clear_ #[t] o.type #[.slice (some ⟨g.γ i,off,none⟩) n cap]).run P w=.ok (.tuple #[]) (w.setRow (g.γ i) c'):=by
       rw[hrun];simp[c']
      have mq:(w.setRow (g.γ i) c').heap[g.γ i]?=some (.cells c' et (0,0)):=setRow_heap w _ c c' et _ hh;have tt:=GU (c':=c') (S:=S) (w:=w) hm (hR.JX cJ) (λ_ _ e=>by rw[cJ]at e;cases e) hR
      have hk:∀k,ke (S.cx g w) ⟨(w.setRow (g.γ i) c').heap,g,S.aC.length,S.bo⟩ k:=λk=>tt.keeps hR (λe=>by cases e) (λe=>by cases e) (λ_ e=>by rw[cJ]at e;cases e)
      have pG:Le ⟨w.heap,g,S.aC.length,[]⟩ ⟨(w.setRow (g.γ i) c').heap,g,S.aC.length,[]⟩:=⟨tt.le.size,tt.le.cells,tt.le.m,tt.le.eZ,tt.le.γ⟩;have r1:R E g { S with aC:=S.aC.set i (.cells (jE cs off (List.replicate n (.int .i64 0)))) } a (w.setRow (g.γ i) c'):=by
       refine R.qk tt hR rfl (by simp) (λi=>.inl (hk i)) (λs v hs=>.inl hs) (λid ei hi=>.inl ⟨hi,(λe=>by cases e),λ_ e=>by rw[cJ]at e;cases e⟩)
        (λf k b hf hb=>.inl ⟨(λe=>by cases e),λ_ e=>by rw[cJ]at e;cases e⟩) (λk o gi=>?_)
       simp only[lM]at gi;by_cases lz:i=k
       .subst lz
        simp[sY]at gi;subst gi;refine .inr ⟨cJ,⟨hm,c',et,mq,by rw[ND];exact iO dS (xr (GS gy).symm),λj u z hu hz=>?_⟩,λj n' es z hu hz=>?_⟩
        .rw[C3]at hu
         rw[show c'[j]?=_ from C5 gy j]at hz;split at hu
         next ny=>
          rw[aJ (by simp only[Jo]at ny ⊢;omega)]at hz
          have J7:=RR (gw hu);have uJ:=RR (gw hz);subst J7;subst uJ;exact⟨rfl,λ_=>rfl,.plain (.int _ _) (wG rfl)⟩
         next ny=>
          have C6:=fg hu;rw[ax (by intro q;simp only[Jo]at q ny;omega)]at hz
          obtain⟨q1,q2,q3⟩:=hj j u z hu hz;exact⟨q1,q2,q3.mono pG (λd=>.inr (q2 d))⟩
        .rw[C3]at hu
         rw[mn mq,show c'[j]?=_ from C5 gy j]at hz;split at hu
         .have J7:=RR (gw hu)
          cases J7
         next ny=>
          have C6:=fg hu;rw[ax (by intro q;simp only[Jo]at q ny;omega)]at hz
          rcases hR.aC.own i _ fb j n' es z hu (by rw[mn hh];exact hz) with h | ⟨q,cap,c2,e',q1,q2,q3,q4,q5,q6⟩
          .exact .inl h
          .have cy:q≠g.γ i:=λe=>by rw[e,cJ]at q2;cases q2
           exact .inr ⟨q,cap,c2,e',q1,q2,q3,(JT w _ q c' cy).trans q4,q5,q6⟩
       .rw[ax lz]at gi
        exact .inl ⟨gi,λ_=>⟨λe=>lz (by rw[cJ]at e;cases e;rfl),λ_ e=>(by rw[cJ]at e;cases e)⟩⟩
      refine cC.value (x:=.tuple #[]) (g':=g) (w':=w.setRow (g.γ i) c') ?_ (r1.put hd (.tuple _ _ rfl (λi v x hv _=>by simp at hv)))
      rw[fR,ep,hrun];rfl
    .cases hG
  .cases hrun
 .cases hrun
end

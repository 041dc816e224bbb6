/- - -/
import Derived.Test.YtabckmbjnjnegaaGreatDoorVmT
namespace Go.Vm
set_option linter.all false
inductive Rs where
 |mk (l:List Bool) (d:Nat) (k:dG) (s:List Nat)
abbrev Rd(α:Type):=Rs->Option (α×Rs)
section
variable {α β γ δ ε ζ η:Type}
def a1(c:α->β)(p:Rd α)(s:Rs):Option (β×Rs):=match p s with
 |some (a,s)=>some (c a,s)
 |none=>none
def a2(c:α->β->γ)(p:Rd α)(q:Rd β)(s:Rs):Option (γ×Rs):=match p s with
 |some (a,s)=>a1 (c a) q s
 |none=>none
def a3(c:α->β->γ->δ)(p:Rd α)(q:Rd β)(t:Rd γ)(s:Rs):Option (δ×Rs):=match p s with
 |some (a,s)=>a2 (c a) q t s
 |none=>none
def a4(c:α->β->γ->δ->ε)(p:Rd α)(q:Rd β)(t:Rd γ)(u:Rd δ)(s:Rs):Option (ε×Rs):=match p s with
 |some (a,s)=>a3 (c a) q t u s
 |none=>none
def a5(c:α->β->γ->δ->ε->ζ)(p:Rd α)(q:Rd β)(t:Rd γ)(u:Rd δ)(v:Rd ε)(s:Rs):Option (ζ×Rs):=match p s with
 |some (a,s)=>a4 (c a) q t u v s
 |none=>none
def a6(c:α->β->γ->δ->ε->ζ->η)(p:Rd α)(q:Rd β)(t:Rd γ)(u:Rd δ)(v:Rd ε)(x:Rd ζ)(s:Rs):Option (η×Rs):=match p s with
 |some (a,s)=>a5 (c a) q t u v x s
 |none=>none
def th(p:Rd α)(f:α->Rd β)(s:Rs):Option (β×Rs):=match p s with
 |some (a,s)=>f a s
 |none=>none
def pu(a:α)(s:Rs):Option (α×Rs):=some (a,s)
def no(_:Rs):Option (α×Rs):=none
inductive HT where
 |l (n:Nat)
 |b (x y:HT)
def rS:HT->Rd Nat
 |.l n,s=>some (n,s)
 |.b x y,.mk (c::l) d k s=>match c with
  |true=>rS y (.mk l d k s)
  |false=>rS x (.mk l d k s)
 |_,_=>none
abbrev kN:=(α:Type)->Nat->α->List α
abbrev uK(α:Type):=kN->List VC->List Char->Option α
def ix(n:Nat):Nat:=if n<47 then 62 else if n<58 then n-48 else if n<91 then n-55 else if n<96 then 63 else n-61
def rt:Nat->List Char->Option (HT×List Char)
 |n+1,c::l=>if c.toNat=95 then match rt n l with
   |some (x,l)=>match rt n l with
    |some (y,l)=>some (.b x y,l)
    |none=>none
   |none=>none
  else some (.l (ix c.toNat),l)
 |_,_=>none
def ur:uK HT:=λ_ _ l=>match rt 200 l with
 |some (x,_)=>some x
 |none=>none
def tW0{α:Type}(R:uK α)(s:String)(x:kN->α):Prop:=∃l,s=String.ofList l/\∀r,R r [] l=some (x r)
def eW0{α:Type}{R:uK α}{l:List Char}{x:kN->α}(h:∀r,R r [] l=some (x r):=by intros;cbv):tW0 R (String.ofList l) x:=⟨l,rfl,h⟩
def dW0{α:Type}(_:uK α)(_:String)(_:kN->α):Prop:=True
abbrev fW0{α:Type}(R:uK α)(s:String):=∀x,tW0 R s x->dW0 R s x
abbrev bm{α:Type}(R:uK α)(s:String){x:kN->α}(_:dW0 R s x:=by apply (?_:fW0 _ _);exact eW0;exact λ_ _=>trivial):α:=x @rep
def ahw:HT:=bm ur "__n____91Rp__C_3____Pg_j___l___r_FS__Vk_mq6Eb__X__HID_4_JN_W___f_M_ac___d_78__GT_ei5h_o_2Y_0__QL__Z__O_KAUB"
def atJ:HT:=bm ur "____m___U_eo960___7__P_b_ilK___MSI2_____aZQ_D_d_hj_8_L_Y_g_____uv_wx__yz__qr_stkp4_____J_RN__nTG__H_C_XW_EF_1_5__BO___fcVA3"
def ahz:HT:=bm ur "______xy_z_12___34_56__78_9A____BC_DE__FG_HI___JK_LM__NO_PQ_____RS_TU__VW_XY___Za_bc__de_fg____hi_jk__lm_no___pq_rs__tu_vw0"
def ahG:HT:=bm ur "_1________b_UeK_P__nST7__EF__M_V_XY_HL__Am52_____C___jcNQ_D___hiRG63__4z___8_I__W_f_l____wx_y_ag___op_qr__st_uvkO___J_dZ9B0"
def atN:HT:=bm ur "_____B8____1_______DE_FG__HJ_KL___MN_OP__QR_ST____UV_WX__YZ_ab___cd_ef__gh_ij_____kl_mn__op_qr___st_uv__wx_y_9CI6Az73_2_540"
def atQ:HT:=bm ur "_7_5_4__0_3_126"
def atS:HT:=bm ur "____GF_42_1____HU_5J_O_T_P__L___M_IKQAD3_0_V____BCN__E_9S_6R_78"
def ahN:HT:=bm ur "____8__7_I_F_Q_JYC42___6__E_B_MD5_3_____U__TcaKG_9__S__gL_PW_O___NR_m_____op_qr__st_uv___wx_yz___Xb_dh__jk_lnV___Ze_fiHA_10"
def atX:HT:=bm ur "__4_3_5_7_8_A__1_______FG_HI__JK_LM___NO_PQ__RT_UV____WX_YZ__ab_cd___ef_gh__ij_kl_____mn_op__qr_st___uv_wx__yz__09_CD6_ESB2"
def ahO:HT:=bm ur "_____6___7A_B_849315_20"
def atY:HT:=bm ur "___47____A3E81__5____0___2G9D6FCB"
def at1:HT:=bm ur "________EI__MS_Un4K___r_x__WyeC6___m_o_GO_8_3__w______HJ_LN__PQ_RT___VX_YZ__ab_cd____fg_hi__jk_lp___qs_tu__v_17__9B_DF5Az20"
def dX:HT:=bm ur "___2_____blNG5____hZp__aeU_DB___n__W_iV_R_df_z_HC_4___KP9___jYLo__0__86m_1__3___cg_Q_____st_uv__wx_y_qrkX_MI____JSE7__F_OTA"
def XD:HT:=bm ur "_______wtzKG_5_J_T9_2___j_YuC_8H_____Pi__yqI__W_Vx_0_RS____o_kdp_c_B_rh3____LD__QN_nA___MU_s_Xa1____Of4___lve7___gF6_b__ZmE"
def ID:HT:=bm ur "_____G_49B2_C1____E_3__6_A_857FD0"
def at5:HT:=bm ur "_____AG__N___g_bnTK94_____z__LM_QXOH__E___Z_____pq_rs__tu_vw___xy__2U_Wc___ef_hi__jk_loSPJ_B____VY_admR5__0_78__3_C_F_DI_16"
def acI:Nat->Nat->Rd Nat
 |0,a,s=>some (a,s)
 |n+1,a,s=>match rS XD s with
  |some (b,s)=>acI n (62*a+b) s
  |none=>none
def rN(t:HT)(s:Rs):Option (Nat×Rs):=match rS t s with
 |some (a,s)=>if a<48 then some (a,s) else if a<61 then a1 (· + (62*a-2928)) (rS XD) s else th (rS XD) (λn=>acI n 0) s
 |none=>none
def rL(p:Rd α):Nat->Rd (List α)
 |0,s=>some ([],s)
 |n+1,s=>match p s with
  |some (a,s)=>match rL p n s with
   |some (as,s)=>some (a::as,s)
   |none=>none
  |none=>none
def rl(p:Rd α):Rd (List α):=th (rN ahN) (rL p)
def rB:Rd Bool:=a1 (· == 1) (rS (.b (.l 0) (.l 1)))
def opt:Nat->Option Nat
 |0=>none
 |n+1=>some n
def rO:Rd (Option Nat):=a1 opt (rN atN)
def toZ(n:Nat):Int:=if n % 2=0 then (n / 2:Nat) else -(n / 2:Nat)
def rZ:Rd Int:=a1 toZ (rN at1)
def rR(r:kN)(p:Rd α):Rd (List α):=th (rN atX) λn=>match n with
 |0=>a2 (r α) (rN dX) p
 |n+1=>rL p n
def qv(r:kN):Rd Sh:=rR r rO
def rK:Rd IntKind:=a1 ([.i8,.i16,.i32,.i64,.u8,.u16,.u32,.u64].getD · .i64) (rS ID)
def rV1(n:Nat):Rd V:=match n with
 |0=>a1 (.int .i64) rZ
 |1=>a1 .bool rB
 |2=>pu .cj
 |3=>a1 (.slice none · []) (rN dX)
 |4=>pu .ig
 |5=>a1 (.fn · []) (rN dX)
 |6=>pu .ij
 |7=>pu .ik
 |8=>a1 (λl=>.str (l.map UInt8.ofNat)) (rl (rN dX))
 |9=>a2 .int rK rZ
 |_=>no
def UI:Rd V:=th (rS ahO) rV1
def rV(r:kN):Rd V:=th (rS ahO) λn=>match n with
 |10=>a1 .agg (rR r UI)
 |11=>a1 (.ff · 0) (rR r UI)
 |n=>rV1 n
def rT(n:Nat):Rd Nat
 |.mk l d k s=>some (if n<12 then d-n else n-12,.mk l d k s)
def rX(r:kN):Rd bG:=th (rN atJ) λn=>match n with
 |0=>a1 (λn=>.c (.int .i64 n)) rZ
 |1=>a1 .c (rV r)
 |n+2=>a1 .t (rT n)
def rXo(r:kN):Rd (Option bG):=th (rS ID) λn=>match n with
 |0=>pu none
 |_=>a1 some (rX r)
def acL:Rd kE:=a1 (λn=>match n with|0=>.mM|1=>.aC|n+2=>.loc n) (rN at5)
def ap9:Rd BinOp:=a1 ([.add,.sub,.mul,.quo,.rem,.and,.or,.xor,.shl,.shr,.andNot,.eql,.neq,.lss,.leq,.gtr,.geq].getD · .add) (rS ID)
def rUn:Rd UnOp:=a1 ([.neg,.xor,.not,.plus].getD · .not) (rS ID)
def UK(r:kN):Rd (List (Sh×bG)):=rl (a2 .mk (qv r) (rX r))
def rVO(r:kN)(d:Nat):Nat->Rd VO
 |0=>a1 .mv (rX r)
 |1=>a3 .pick (rX r) (rX r) (rX r)
 |2=>a2 .obj (pu d) (rR r (rV r))
 |3=>a2 .box (pu d) (rX r)
 |4=>a2 .yB (qv r) (rX r)
 |5=>a2 .yC (qv r) (rR r (rV r))
 |6=>pu .yD
 |7=>a6 .Ac rB (rl (rN dX)) (rV r) rB (rX r) (rX r)
 |8=>a6 .yE rB (rl (rN dX)) (qv r) (rX r) (rX r) (rX r)
 |9=>a2 .build (rR r (rV r)) (rl (a3 (λa b c=>(a,b,c)) (rN dX) (rN dX) (rX r)))
 |10=>a5 .lit rO (qv r) (rR r (rV r)) (rN dX) (rl (a2 .mk (rN dX) (rX r)))
 |11=>a3 .load acL rO (rX r)
 |12=>a4 .store acL (qv r) (rX r) (rX r)
 |13=>a2 .vt (rN dX) (rX r)
 |14=>a1 .A7 (rN dX)
 |16=>a3 .grow (rN dX) (rN dX) (rX r)
 |17=>a4 .yG (rN dX) rO (rX r) (rX r)
 |18=>a2 .yI rB (rX r)
 |19=>a3 .xt (rN dX) (rX r) (rX r)
 |20=>a1 .xu (rX r)
 |21=>a3 .bin ap9 (rX r) (rX r)
 |22=>a3 .beq rB (rX r) (rX r)
 |23=>a4 .iI rB (rl (rN dX)) (rX r) (rX r)
 |24=>a2 .un rUn (rX r)
 |25=>a2 .conv rK (rX r)
 |26=>a2 .xv (rN dX) (rX r)
 |27=>a4 .r7 rO (rN dX) (rX r) (rX r)
 |29=>a3 .field (rN dX) rO (rX r)
 |30=>a1 .len (rX r)
 |32=>th (rN dX) λf=>a6 (.app f) rO rO (qv r) (rN dX) (rX r) (rX r)
 |33=>a6 .wB (rN dX) (rN dX) rO (qv r) (rX r) (rX r)
 |34=>a2 .ext (rX r) (rN dX)
 |35=>a4 .call rB (rX r) (UK r) (rl (a2 .mk (rN dX) (rN dX)))
 |36=>a4 .Ad (rN dX) (rN dX) (rN dX) (rX r)
 |37=>a2 .um (rX r) (UK r)
 |38=>a3 .vu (rX r) (rl (a3 (λa b c=>(a,b,c)) (qv r) (qv r) (rX r))) (rl (rN dX))
 |39=>a5 .own (rX r) (rl (a3 (λa b c=>(a,b,c)) (qv r) (qv r) (rX r))) (rl (rN dX)) (rN dX) (rN dX)
 |40=>a3 .vv (rX r) (UK r) (rN dX)
 |41=>a3 .xy (pu d) (rR r (rV r)) (rX r)
 |42=>a4 .yJ (rN dX) (rX r) (rXo r) (rXo r)
 |43=>a3 .mm rB (rX r) (rX r)
 |44=>a4 .xA rB (rX r) (rX r) (rX r)
 |45=>a2 .yK (rN dX) (rl (rX r))
 |47=>a1 .yH (rX r)
 |_=>no
def rD:Nat->Rd (Option Nat)
 |0,.mk l d k s=>some (some (d+1),.mk l (d+1) k (s++[d+1]))
 |1,s=>match rN dX s with
  |some (n,.mk l _ k s)=>some (some n,.mk l n k (s++[n]))
  |none=>none
 |_,s=>some (none,s)
def UL(r:kN):Rd cf:=th (rS ahw) λt=>if t<48 then th (rD 0) λd=>a1 (⟨d,·,none⟩) (rVO r (d.getD 0) t)
 else th (rD ((t-48) % 3)) λd=>th (th (rS ahw) (rVO r (d.getD 0))) λo=>if t<51 then pu ⟨d,o,none⟩ else a2 (λa b=>⟨d,o,some (a,b)⟩) (rN dX) rB
def rG(r:kN):Rd iP:=th (rS ID) λn=>match n with
 |0=>a3 .norm (rN dX) (rN dX) (rN dX)
 |1=>a4 .pB (rN dX) (rN dX) (rN dX) (rN dX)
 |2=>a2 .freeze (rN dX) (qv r)
 |4=>a2 .kF (rN dX) (rN dX)
 |5=>a3 .Np (rN dX) (rN dX) (qv r)
 |6=>a3 .tD (rN dX) (rN dX) (rN dX)
 |7=>a2 .share (rN dX) (qv r)
 |9=>a2 .GH (rN dX) (rl (qv r))
 |10=>a4 .yL (rN dX) (rN dX) (rN dX) (rN dX)
 |11=>a4 .CP (rN dX) (rN dX) (rN dX) (rN dX)
 |_=>a3 .CQ (rN dX) (rN dX) (qv r)
def aqb(n:Nat):List Bool:=[n % 2==1,n / 2 % 2==1,n / 4 % 2==1,n / 8 % 2==1,n / 16==1]
def UM:List Nat->List Bool->List Nat
 |a::as,true::bs=>a::UM as bs
 |_::as,false::bs=>UM as bs
 |_,_=>[]
def dl:Nat->List Nat->List Nat
 |_,[]=>[]
 |p,a::l=>(p+a)::dl (p+a) l
def KN:Rd (List Nat):=th (rN ahN) λn=>if n % 2=0 then a1 (dl 0) (rL (rN ahG) (n / 2)) else rL (rN ahG) (n / 2)
def rE(f:Nat):Rd (List Nat)
 |.mk l d k s=>if f % 2=0 then KN (.mk l d k s) else a1 (λbs=>UM (k.e++s) (bs.flatMap aqb)) (rL (rS atS) ((k.e.length+s.length+4) / 5)) (.mk l d k s)
def rKo(f:Nat):Rd (List Nat)
 |.mk l d k s=>if f / 2 % 2=0 then KN (.mk l d k s) else some (k.o,.mk l d k s)
def rKt(f:Nat):Rd (List Nat)
 |.mk l d k s=>if f / 4=0 then KN (.mk l d k s) else some (k.t,.mk l d k s)
def UN(s:Rs):Option (dG×Rs):=match th (rS atQ) (λf=>a3 .mk (rE f) (rKo f) (rKt f)) s with
 |some (k,.mk l d _ _)=>some (k,.mk l d k [])
 |none=>none
def HL(r:kN):Nat->Rd VC
 |0=>a2 (.region [] []) (rl (UL r)) UN
 |1=>a3 (.region []) KN (rl (UL r)) UN
 |_=>a4 .region (rl (rG r)) KN (rl (UL r)) UN
def ya(r:kN)(env:List VC):Nat->Rd VC
 |0=>no
 |n+1=>th (rS atY) λt=>match t with
  |0=>pu .skip
  |1=>pu .ret
  |2=>pu .dead
  |3=>a1 .exit (rN dX)
  |4=>a2 .block (rN dX) (ya r env n)
  |5=>a2 .seq (ya r env n) (ya r env n)
  |6=>a3 .cond (rX r) (ya r env n) (ya r env n)
  |7=>a2 (λc a=>.cond (.t c) a .skip) (th (rN ahz) rT) (ya r env n)
  |8=>HL r 0
  |9=>HL r 1
  |10=>HL r 2
  |11=>a2 .seq (HL r 0) (ya r env n)
  |12=>a2 .seq (HL r 1) (ya r env n)
  |13=>a2 .seq (HL r 2) (ya r env n)
  |14=>a3 (λc i a=>.seq (.cond (.t c) .skip (.exit i)) a) (th (rN ahz) rT) (rN dX) (ya r env n)
  |15=>a1 (env.getD · .skip) (rN dX)
  |16=>a1 .Es (rl (rG r))
  |_=>no
def aqf(r:kN):Rd vw:=th (rS ID) λn=>match n with
 |0=>a2 .t (rN dX) (qv r)
 |_=>a3 .c (rN dX) rB (qv r)
def rF(r:kN)(env:List VC):Rd bb:=a5 (λn rs ds sp b=>⟨n,b,rs,ds,sp⟩) (rN dX) (rl (aqf r)) (rl (rN dX)) rO (ya r env 500)
end
def b6(n:Nat)(l:List Bool):List Bool:=(n / 32==1)::(n / 16 % 2==1)::(n / 8 % 2==1)::(n / 4 % 2==1)::(n / 2 % 2==1)::(n % 2==1)::l
def lets:List Char->List Bool
 |[]=>[]
 |c::l=>b6 (ix c.toNat) (lets l)
def E9{α:Type}(p:Rd α)(l:List Char):Option α:=match p (.mk (lets l) 0 ⟨[],[],[]⟩ []) with
 |some (a,_)=>some a
 |_=>none
def b9(r:kN)(env:List VC)(l:List Char):Option VC:=E9 (ya r env 500) l
def bt(r:kN)(env:List VC)(l:List Char):Option bb:=E9 (rF r env) l
def tW1{α:Type}(R:uK α)(s:String)(x:kN->VC->α):Prop:=∃l,s=String.ofList l/\∀r a0,R r [a0] l=some (x r a0)
variable{l:List Char}
def eW1{α:Type}{R:uK α}{x:kN->VC->α}(h:∀r a0,R r [a0] l=some (x r a0):=by intros;cbv):tW1 R (String.ofList l) x:=⟨l,rfl,h⟩
def dW1{α:Type}(_:uK α)(_:String)(_:kN->VC->α):Prop:=True
abbrev fW1{α:Type}(R:uK α)(s:String):=∀x,tW1 R s x->dW1 R s x
abbrev cU{α:Type}(R:uK α)(s:String)(a0:VC){x:kN->VC->α}(_:dW1 R s x:=by apply (?_:fW1 _ _);exact eW1;exact λ_ _=>trivial):α:=x @rep a0
def tW2{α:Type}(R:uK α)(s:String)(x:kN->VC->VC->α):Prop:=∃l,s=String.ofList l/\∀r a0 a1,R r [a0,a1] l=some (x r a0 a1)
def eW2{α:Type}{R:uK α}{x:kN->VC->VC->α}(h:∀r a0 a1,R r [a0,a1] l=some (x r a0 a1):=by intros;cbv):tW2 R (String.ofList l) x:=⟨l,rfl,h⟩
def dW2{α:Type}(_:uK α)(_:String)(_:kN->VC->VC->α):Prop:=True
abbrev fW2{α:Type}(R:uK α)(s:String):=∀x,tW2 R s x->dW2 R s x
abbrev ph{α:Type}(R:uK α)(s:String)(a0 a1:VC){x:kN->VC->VC->α}(_:dW2 R s x:=by apply (?_:fW2 _ _);exact eW2;exact λ_ _=>trivial):α:=x @rep a0 a1
def tW3{α:Type}(R:uK α)(s:String)(x:kN->VC->VC->VC->α):Prop:=∃l,s=String.ofList l/\∀r a0 a1 a2,R r [a0,a1,a2] l=some (x r a0 a1 a2)
def eW3{α:Type}{R:uK α}{x:kN->VC->VC->VC->α}(h:∀r a0 a1 a2,R r [a0,a1,a2] l=some (x r a0 a1 a2):=by intros;cbv):tW3 R (String.ofList l) x:=⟨l,rfl,h⟩
def dW3{α:Type}(_:uK α)(_:String)(_:kN->VC->VC->VC->α):Prop:=True
abbrev fW3{α:Type}(R:uK α)(s:String):=∀x,tW3 R s x->dW3 R s x
abbrev wW3{α:Type}(R:uK α)(s:String)(a0 a1 a2:VC){x:kN->VC->VC->VC->α}(_:dW3 R s x:=by apply (?_:fW3 _ _);exact eW3;exact λ_ _=>trivial):α:=x @rep a0 a1 a2
def tW5{α:Type}(R:uK α)(s:String)(x:kN->VC->VC->VC->VC->VC->α):Prop:=∃l,s=String.ofList l/\∀r a0 a1 a2 a3 a4,R r [a0,a1,a2,a3,a4] l=some (x r a0 a1 a2 a3 a4)
def eW5{α:Type}{R:uK α}{x:kN->VC->VC->VC->VC->VC->α}(h:∀r a0 a1 a2 a3 a4,R r [a0,a1,a2,a3,a4] l=some (x r a0 a1 a2 a3 a4):=by intros;cbv):tW5 R (String.ofList l) x:=⟨l,rfl,h⟩
def dW5{α:Type}(_:uK α)(_:String)(_:kN->VC->VC->VC->VC->VC->α):Prop:=True
abbrev fW5{α:Type}(R:uK α)(s:String):=∀x,tW5 R s x->dW5 R s x
abbrev wW5{α:Type}(R:uK α)(s:String)(a0 a1 a2 a3 a4:VC){x:kN->VC->VC->VC->VC->VC->α}(_:dW5 R s x:=by apply (?_:fW5 _ _);exact eW5;exact λ_ _=>trivial):α:=x @rep a0 a1 a2 a3 a4

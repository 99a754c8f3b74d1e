/- Lemmas for SignerOnce. Conditions: in each statement. -/
import Derived.Test.YtjmgalpkbkcmkaaGreatDoorQ11
set_option maxRecDepth 100000
set_option maxHeartbeats 16000000
set_option linter.all false
namespace Go.Proofs.YtjmgalpkbkcmkaaGreatDoor
open Go.RowKit Go.Proofs.Tryz Go.Proofs.YtjmgalpkbkcmkaaGreatDoor.Tryz
open Exists renaming elim->UX
open Go renaming Addr->VW,Value->UV,World->UN,cell_of_row->Uc,funcToken->ZN
open Go.Act renaming put->Ua
open Go.DataW renaming trod->Yg
open Go.IntKind renaming i64->Tl,u64->Tt
open Go.Lib renaming hid->Tn
open Go.Obj renaming cells->Tq
open Go.Proofs.Tryz renaming prog->UB
open Go.Value renaming agg->UT,bool->U1,int->Ti,pointer->UK,slice->Tm,tuple->UW
open Go.World renaming alloc_heap_new->UZ,size_alloc->Ud
open List.cons renaming injEq->Yq
open Nat renaming le_refl->UY,reduceAdd->VO,zero_le->VF
open Option renaming none->U8,some->Ts
open Option.some renaming inj->Vm
open Prod.mk renaming injEq->Yy
variable {V W w1 w2:World} {a a1 ba na pa ra:Option Addr} {bc g n1 nc pc q rc:Nat} {vs:List Value}
section
section
attribute [local irreducible] ak aN
def Jl(V:UN)(S:dp)(m:Option VW)(j:Nat)(l:Option VW)(c:Nat)(f:Option VW)(d:Nat)(a1:Option VW)(n1:Nat)(c1:Nat)(b:Option VW)(kc1:Nat)(ra:Option VW)(o:Nat)(rc:Nat)(na:Option VW)(p:Nat)(nc:Nat):List (UV->UN->Prop):=
 [ev (UT #[Ti Tl S.share.id,ag S.share.x,U1 S.bad,U1 S.up,Tm m S.done.length j,Tm l S.store.safe.length c,Tm f S.store.opn.length d]),
  ev (Tm a1 n1 c1),
  ev (Tm b 2 kc1),
  ev (Tm b 1 kc1),
  ev (UT #[Tm ra o rc,Tm na p nc]),
  ev (UW #[UT #[Ti Tl 0,Ti Tt 0,U1 false,U1 false,zz,zz,zz],UT #[Ti Tl 0,Ti Tt 0],Ti Tl 251]),
  ev (UW #[UT #[Ti Tl 0,Ti Tt 0,U1 false,U1 false,zz,zz,zz],UT #[Ti Tl 0,Ti Tt 0],Ti Tl 251]),
  ev (UT #[Ti Tl 0,Ti Tt 0,U1 false,U1 false,zz,zz,zz]),
  ev (UT #[Ti Tl 0,Ti Tt 0]),
  ev (Ti Tl 251),
  fun v w=>∃g,v=UK (Ts ⟨g,0,U8⟩)/\V.heap.size<=g/\w.heap[g]?=Ts (Tq #[Ti Tl 0,Ti Tt 0,U1 false,U1 false,zz,zz,zz] 44 (0,0)),
  fun v w=>∃g2,v=UK (Ts ⟨g2,0,U8⟩)/\V.heap.size<=g2/\w.heap[g2]?=Ts (Tq #[Ti Tl 0,Ti Tt 0] 39 (0,0)),
  tv,
  tv,
  ev (Ti Tl 251)]
def MF(V:UN)(S:dp)(l:Option VW)(g:Nat)(j:Option VW)(b:Nat)(f:Option VW)(c:Nat)(a1:Option VW)(n1:Nat)(c1:Nat)(d:Option VW)(kc1:Nat)(ra:Option VW)(m:Nat)(rc:Nat)(na:Option VW)(o:Nat)(nc:Nat):List (UV->UN->Prop):=
 Jl V S l g j b f c a1 n1 c1 d kc1 ra m rc na o nc|>.set 10 tv
def ah7(V:UN)(S:dp)(l:Option VW)(g:Nat)(j:Option VW)(b:Nat)(f:Option VW)(c:Nat)(a1:Option VW)(n1:Nat)(c1:Nat)(d:Option VW)(kc1:Nat)(ra:Option VW)(m:Nat)(rc:Nat)(na:Option VW)(o:Nat)(nc:Nat):List (UV->UN->Prop):=
 MF V S l g j b f c a1 n1 c1 d kc1 ra m rc na o nc|>.set 11 tv
def akF{S f l m b j d c1 g kc1 p}{o:Nat}(P:Fr (fun i=>i=o) w1 w2)(r:w1.heap[o]?=Ts (Tq #[Ti Tl 0,Ti Tt 0,U1 false,U1 false,zz,zz,zz] 44 (0,0))):∀i_,((Jl V S f l m b j d a1 n1 c1 g kc1 ra p rc na q nc).getD i_ fun _ _=>True) (vs.getD i_ undef) w1->((MF V S f l m b j d a1 n1 c1 g kc1 ra p rc na q nc).getD i_ fun _ _=>True) (vs.getD i_ undef) w2:=by
 intro i_ h;iterate 15 (rcases i_ with _|i_;focus first|exact(h:_=_)|trivial|(obtain⟨g2,L,h1,c⟩:=h;exact⟨g2,L,h1,aM c P (fun e=>by have s:g2=o:=e;subst s;rw[r]at c;simp at c)⟩))
 trivial
def lA{p:Prop}(h:p:=by
  intro s vs w' hlo hhi hl hK hd;rcases(show s=0\/s=1\/s=2 from Ph)with rfl|rfl|rfl<;>try omega
  all_goals first
  |(
    have HK0:Hid (aq W20 w'):=hK;clear hK;simp only[aK,Ua,PV];(try rw[dq hd 2 Pj rfl]);(try rw[dq hd 5 Pj rfl]);(try rw[dq hd 6 Pj rfl]);have HL:=Tn hl;clear hd hl;(try(have hr:=ai HRGY_20 HK0;refine PX hr fun z0 z1 z2 z3 z4 z5 z6=>?_));(try(have hkc1:(1:Int)<=(kc1:Int):=by have:=HKC1.out.1;omega));(try(have hr:=ai HRGT_20 HK0;refine PM hr fun z0 z1=>?_));unfold ak;go_simp
    exact⟨rfl,P0⟩)
  |(
    have HK0:Hid (aq W20 w'):=hK;clear hK;simp only[aK,Ua,PV];(try rw[dq hd 6 Pj rfl]);have HL:=Tn hl;clear hd hl;unfold ak;go_simp
    exact⟨rfl,P0⟩)
  |(
    have HK0:Hid (aq W20 w'):=hK;clear hK;simp only[aK,Ua,PV];(try rw[dq hd 0 Pj rfl]);(try rw[dq hd 1 Pj rfl]);(try rw[dq hd 2 Pj rfl]);(try rw[dq hd 3 Pj rfl]);(try rw[dq hd 4 Pj rfl]);(try rw[dq hd 5 Pj rfl]);(try rw[dq hd 6 Pj rfl]);(try rw[dq hd 7 Pj rfl]);(try rw[dq hd 8 Pj rfl]);(try rw[dq hd 9 Pj rfl]);have HL:=Tn hl;clear hd hl;unfold ak;go_simp
    exact⟨rfl,P0⟩)):p:=h
end
def MY:yK [115] 1 1=[kU]:=Pj
def MV:Ed [115] 1 1=iC:=rfl
def sD(w):dQ w oy ⟨U8,0,zz,zz⟩:=⟨cr.nil _ _ _ _,UY _,VF _,⟨⟨U8,0,rfl,UY _,VF _,fun i x m=>by simp[oy]at m⟩,⟨U8,0,rfl,UY _,VF _,fun i x m=>by simp[oy]at m⟩⟩,nL.nil⟩
def aa7{cw}{f:UV}(j:pB cw pa pc=f)(h:mC W cw pa pc){b:au}(hb:aJ W (Tm ba g bc) b)(d:b.length<=1000000){cm c:bq}(m:c.x<2^64)(z:cr 2 eF W a [cm]){k:Int}(o:gJ cw b [cm] c=k):
  Calls UB 17 #[f,Tm ba g bc,Tm a 1 1,UT #[Ti Tl c.id,ag c.x]] W (bM (Ti Tl k) W):=by
 subst j o;obtain⟨x,y,e⟩:=hb.form;cases e;exact yi (cm:=[cm]) c W h m hb d (UY _) Pi (by decide:1<=1000000) z
def agG(w):dQ w ⟨⟨0,0⟩,false,false,[],⟨[],[]⟩⟩ ⟨U8,0,zz,zz⟩:=⟨(sD w).done,(sD w).dl,(sD w).dm,(sD w).sto,nL.nil⟩
def Aj(c:bq)(w:UN)(h:c.x<2^64):cr 2 eF (w.alloc (Tq #[Ti Tl c.id,ag c.x] 39)) (Ts ⟨w.heap.size,0,U8⟩) [c]:=fun i x m=>by
 have hr:=UZ w (Tq #[Ti Tl c.id,ag c.x] 39);match i,m with
 |0,m=>cases m;exact⟨_,_,rfl,Uc _ _ 0 _ _ _ hr,Uc _ _ 1 _ _ _ hr,h⟩
attribute [local irreducible] ak aN
def MA(w)(hw:xB w)(hK:aU w):Calls UB 4 #[] w (bM (U1 true) w):=by
 refine P3 hw hK (Below.refl w.heap.size w) fun HENV HKD HEXT=>have kc:=fun(w:UN)(C:Array UV)(n c:Nat)=>Lib.run_convert_bytes_const (P:=UB) w 37 5 C n c underlying37 underlying5;?_;clear hw hK;refine UX afA fun B1 h=>UX h fun B2 h=>UX h fun B3 h=>UX h fun SX h=>UX h fun SZ h=>UX h fun SW h=>UX h fun SB h=>UX h fun cm h=>UX h fun pt h=>P5 h.1 h.2.1 h.2.2.1 h.2.2.2 fun b HN1 HN2 HN3=>?_;clear h;refine P1 (ef [jM]) fun tr htr=>have HTR:=Tn htr;?_;clear htr;go_enter func4,ntmps4;go_upto_region 1 with fail;go_wp2_with fail;refine(ub w HENV).mono ?_;rintro e t⟨ra,rn,rc,na,nn,nc,rfl,hT,hE1⟩;rw[HTR.out]at hT;refine P4 hT (hE1) fun HTAB HJ1=>?_;clear hT hE1;refine nV t (Tq #[Tm ra rn rc,Tm na nn nc] 27) fun GT I HQGT HQW2 HXW2 HRGT=>have HJ2:=Tn (HXW2);?_;go_upto_region 2 with fail;try rw[HQGT.out]
 try erw[HQW2.out]
 go_wp2_with fail;have HJ0_2:=Tn (aa HJ1 HJ2);have HKD_2:=Tn (HKD.ext HJ0_2);refine((mA 1 OM 9 I HKD_2 Pi)).mono ?_;rintro e O⟨a1,n1,c1,ka1,kc1,s1,rfl,B,hb,hl,z,hk,hk1,hk2⟩;rw[show ep 1 OM 9=true from aeG]at z⊢;rw[HN1.out]at z;obtain rfl:=z rfl;refine PC hb hl hk (And.intro hk1 hk2) (B) fun HB1 HL1 HKY1 HKC1 HJ3=>?_;clear B hb hl z hk hk1 hk2;go_wp2_with fail;have HKD_3:=Tn (HKD_2.ext HJ3);refine((mA 1 abV 9 O HKD_3 Pi)).mono ?_;rintro e W4⟨a2,n2,c2,ka2,kc2,s2,rfl,B,hb,hl,z,hk,hk1,hk2⟩;rw[show ep 1 abV 9=true from aeO]at z⊢;rw[HN2.out]at z;obtain rfl:=z rfl;refine P3 hb hl (B) fun HB2 HL2 HJ4=>?_;clear B hb hl z hk hk1 hk2;go_wp2_with fail;have HKD_4:=Tn (HKD_3.ext HJ4);refine((mA 2 afL 9 W4 HKD_4 Pi)).mono ?_;rintro e W5⟨a3,n3,c3,ka3,kc3,s3,rfl,B,hb,hl,z,hk,hk1,hk2⟩;rw[show ep 2 afL 9=true from ad5]at z⊢;rw[HN3.out]at z;obtain rfl:=z rfl;refine P3 hb hl (B) fun HB3 HL3 HJ5=>?_;clear B hb hl z hk hk1 hk2;refine P1 W5.heap.size fun D6 hD6=>P1 (W5.alloc (Tq #[Ti IntKind.u8 115] 5 (1,2))) fun W6 hW6=>have HX6:=Tn (show aq W5 W6 by rw[<-hW6];exact af P0 _);have HBS:Hid (aJ W6 (Tm (Ts ⟨D6,0,U8⟩) 1 1) [115]):=Tn (by rw[<-hW6,<-hD6];exact uB W5 115);P4 hD6 hW6 fun HQD6 HQW6=>?_;clear hD6 hW6;go_wp2_with fail;rw[HQD6.out];rw[HQW6.out];have HJ6:=Tn (HX6);refine(Jc 1 1 _ [115] W6 Pi Pi Pi HBS Pi).mono ?_;rintro e W7⟨pa,pc,gb,rfl,hcw,hsh,hE7⟩;rw[MV]at hcw⊢;rw[MY]at hsh;refine P4 hcw hsh fun HCW HSH=>P1 iC.parts.length fun cn hcn=>P1 iC.key fun ck hck=>have HCK:=Tn hck;have HCRW:Hid (pB iC pa pc=UT #[Ti Tl 1,Ti Tl 1,ag ck,Tm pa cn pc]):=Tn (by rw[<-hcn,<-hck];rfl);?_;rw[HCRW.out];have HJ7:=Tn (hE7);clear hcw hsh hE7 hcn hck;refine nV W7 (Tq #[Ti Tl 1,Ti Tl 1,ag ck,Tm pa cn pc] 33) fun GW W8 HQGW HQW8 HXW8 HRGW=>have HJ8:=Tn (HXW8);have HSH_8:=Tn (HSH.ext HJ8);?_;go_upto_region 6 with fail;try rw[HQGW.out]
 try erw[HQW8.out]
 refine P1 kU.id fun si hsi=>P1 kU.x fun sx hsx=>P4 hsi hsx fun HSI HSX=>have hs0:=HSH_8.out 0 kU rfl;?_;obtain⟨b0,o0,hb0,y0,y1,_⟩:=hs0;cases hb0;rw[hsi]at y0;rw[hsx]at y1;have hnew:=fun W=>Dw kU W CY;rw[hsi,hsx]at hnew;have HNEW:=Tn hnew;clear hnew hsi hsx;go_wp2_with fail;refine P2 (HNEW W8) fun W9 hE9=>have HJ9:=Tn (hE9);?_;clear hE9 y0 y1;refine nV W9 (Tq #[Ti Tl si,ag sx,U1 false,U1 true,zz,zz,zz] 44) fun GS W10 HQGS HQW10 HXW10 a6=>have HJ10:=Tn (HXW10);?_;go_upto_region 9 with fail;try rw[HQGS.out]
 try erw[HQW10.out]
 have HS0:Hid (oy=(⟨⟨si,sx⟩,false,true,[],⟨[],[]⟩⟩:dp)):=Tn Xe;have HSC0:Hid (dQ W10 (⟨⟨si,sx⟩,false,true,[],⟨[],[]⟩⟩:dp) ⟨U8,0,zz,zz⟩):=Tn (by rw[<-HS0.out];exact sD _);have HZ0:Hid (Ej (⟨⟨si,sx⟩,false,true,[],⟨[],[]⟩⟩:dp)):=Tn (by rw[<-HS0.out];exact ajE);refine P3 b.out.c1 b.out.s1 b.out.h1 fun HC1 HC2 HC3=>?_;rw[HS0.out]at HC1 HC2 HC3;have HJ2_10:=Tn (aa (aa (aa (aa (aa (aa (aa HJ3 HJ4) HJ5) HJ6) HJ7) HJ8) HJ9) HJ10);have HRGT_10:=Tn (ai HRGT HJ2_10);refine PX a6 fun g0 g1 g2 g3 g4 g5 g6=>PM HRGT_10 fun t0 t1=>?_;go_wp2_with fail;have HJ1_10:=Tn (aa HJ2 HJ2_10);refine P4 (HTAB.ext HJ1_10) (aa HJ0_2 HJ2_10) fun HTAB_10 HJ0_10=>P4 (HENV.ext HJ0_10) (aa (aa (aa (aa (aa HJ5 HJ6) HJ7) HJ8) HJ9) HJ10) fun HENV_10 HJ4_10=>P4 (HKD_4.ext HJ4_10) (aa HJ4 HJ4_10) fun HKD_10 HJ3_10=>P4 (HB1.ext HJ3_10) (HKY1.ext HJ3_10) fun HB1_10 HKY1_10=>(mD (HTR) HTAB_10 HENV_10 HKD_10 HB1_10 HL1 rfl Pi HKC1.1 HKC1.2 HKY1_10 (fun _ h=>h) HSC0 HZ0 rfl (fun _=>b.out.g1) HC1 HC2 HC3).mono ?_;rintro e W11⟨B,R,u⟩;clear g0 g1 g2 g3 g4 g5 g6 t0 t1;obtain⟨x1,he,hC⟩:=u rfl;subst he;obtain⟨da1,dc1,u1,v1⟩:=x1;obtain⟨ua1,uc1,va1,vc1,X,hv⟩:=hC.sto.form;dsimp only at X hv;subst X hv;unfold eK;dsimp only;have HSC1:=Tn hC;clear R u hC;have HJ11:=Tn (B);clear B;refine nV W11 (Tq #[Ti Tl SX.share.id,ag SX.share.x,U1 SX.bad,U1 SX.up,Tm da1 SX.done.length dc1,Tm ua1 SX.store.safe.length uc1,Tm va1 SX.store.opn.length vc1] 44) fun GX W12 HQGX HQW12 HXW12 HRGX=>have HJ12:=Tn (HXW12);nV W12 (Tq #[Ti Tl cm.id,ag cm.x] 39) fun GM ac HQGM HQW13 HXW13 HRGM=>have HJ13:=Tn (HXW13);?_;have U:GX+1=GM:=by rw[<-HQGM.out,<-HQW12.out,Ud,HQGX.out]
 go_upto_region 10 with fail;try rw[HQGX.out]
 try rw[U]
 try erw[HQW12.out]
 try erw[HQW13.out]
 clear U;have HJ8_13:=Tn (aa (aa (aa (aa HJ9 HJ10) HJ11) HJ12) HJ13);refine P4 (ai HRGW HJ8_13) (ai HRGX HJ13) fun Z D=>PR Z fun w0 w1 w2 w3=>PX D fun g0 g1 g2 g3 g4 g5 g6=>PM HRGM fun m0 m1=>P1 ac.heap.size fun MS hMS=>P1 (ac.alloc (Tq #[Ti Tl cm.id,Ti Tt (cm.x:Int)] 39)) fun W14 hW14=>have HX14:=Tn (show aq ac W14 by rw[<-hW14];exact af P0 _);?_;have hmr:W14.heap[MS]?=Ts (Tq #[Ti Tl cm.id,ag cm.x] 39 (0,0)):=by rw[<-hW14,<-hMS];exact UZ _ _
 have HCMS:Hid (cr 2 eF W14 (Ts ⟨MS,0,U8⟩) [cm]):=Tn (fun i x hx=>by
  match i,hx with
  |0,hx=>cases hx;exact⟨_,_,rfl,Uc W14 MS 0 _ _ _ hmr,Uc W14 MS 1 _ _ _ hmr,b.cx⟩)
 refine P4 hMS hW14 fun HQMS HQW14=>?_;clear hMS hW14 hmr;go_wp2_with fail;try rw[HQMS.out]
 try erw[HQW14.out]
 clear w0 w1 w2 w3 g0 g1 g2 g3 g4 g5 g6 m0 m1;have HJ14:=Tn (HX14);have HJ11_14:=Tn (aa (aa HJ12 HJ13) HJ14);refine P4 (HSC1.ext HJ11_14) (aa HJ11 HJ11_14) fun HSC1_14 HJ10_14=>P4 (HB1_10.ext HJ10_14) (aa (aa HJ8 HJ8_13) HJ14) fun HB1_14 HJ7_14=>have HCW_14:=Tn (HCW.ext HJ7_14);(NL HSC1_14 b.zx HB1_14 HL1 HCW_14 (mn:=1) rfl (UY _) Pi Pi HCMS HCRW b.p b.ps).mono ?_;rintro e W15⟨B,R,u⟩;obtain⟨x2,he,hC⟩:=u rfl;subst he;obtain⟨da2,dc2,u2,v2⟩:=x2;obtain⟨ua2,uc2,va2,vc2,X,hv⟩:=hC.sto.form;dsimp only at X hv;subst X hv;unfold eK;dsimp only;have HSC2:=Tn hC;clear R u hC;have HJ15:=Tn (B);clear B;refine nV W15 (Tq #[Ti Tl SX.share.id,ag SX.share.x,U1 SX.bad,U1 SX.up,Tm da2 SX.done.length dc2,Tm ua2 SX.store.safe.length uc2,Tm va2 SX.store.opn.length vc2] 44) fun GY W16 HQGY HQW16 HXW16 HRGY=>have HJ16:=Tn (HXW16);nV W16 (Tq #[Ti Tl pt.id,ag pt.x] 39) fun GQ W17 HQGQ HQW17 HXW17 HRGQ=>have HJ17:=Tn (HXW17);?_;have U:GY+1=GQ:=by rw[<-HQGQ.out,<-HQW16.out,Ud,HQGY.out]
 go_upto_region 11 with fail;try rw[HQGY.out]
 try rw[U]
 try rw[HQW16.out]
 try rw[HQW17.out]
 clear U;refine P4 (ai HRGY HJ17) (aa (aa (aa HJ10_14 HJ15) HJ16) HJ17) fun E T=>have HRGT_17:=Tn (ai HRGT_10 T);PX E fun g0 g1 g2 g3 g4 g5 g6=>PM HRGT_17 fun t0 t1=>?_;go_wp2_with fail;refine P5 (HTAB_10.ext T) (HENV_10.ext T) (HKD_10.ext T) (aa (aa (aa (aa (aa HJ6 HJ7) HJ7_14) HJ15) HJ16) HJ17) fun HTAB_17 HENV_17 HKD_17 HJ5_17=>P3 (HB3.ext HJ5_17) (HKY1_10.ext T) (aa HJ16 HJ17) fun HB3_17 HKY1_17 HJ15_17=>have HSC2_17:=Tn (HSC2.ext HJ15_17);(mD (HTR) HTAB_17 HENV_17 HKD_17 HB3_17 HL3 rfl Pi HKC1.1 HKC1.2 HKY1_17 (fun _ h=>h) HSC2_17 b.zx rfl (fun _=>b.out.g3) b.i rfl rfl).mono ?_;rintro e W18⟨B,R,u⟩;clear g0 g1 g2 g3 g4 g5 g6 t0 t1;have he:=R Pi;subst he;clear R u;have HJ18:=Tn (B);clear B;refine nV W18 (Tq #[Ti Tl 0,Ti Tt 0,U1 false,U1 false,zz,zz,zz] 44) fun GI1 W19 HQGI1 HQW19 HXW19 HRGI1=>have HJ19:=Tn (HXW19);nV W19 (Tq #[Ti Tl 0,Ti Tt 0] 39) fun GI2 W20 HQGI2 HQW20 HXW20 HRGI2=>have HJ20:=Tn (HXW20);?_;have U:GI1+1=GI2:=by rw[<-HQGI2.out,<-HQW19.out,Ud,HQGI1.out]
 go_upto_region 12 with fail;try rw[HQGI1.out]
 try rw[U]
 try rw[HQW19.out]
 try rw[HQW20.out]
 clear U;have y:=Tn (aa (aa HJ18 HJ19) HJ20);refine P9 (ai E y) (ai HRGT_17 y) (HTAB_17.ext y) (HENV_17.ext y) (HKD_17.ext y) (aa (aa HJ15 HJ15_17) y) fun HRGY_20 HRGT_20 HTAB_20 HENV_20 HKD_20 a9=>P3 (HB1_14.ext a9) (HKY1_17.ext y) (HSC2_17.ext y) fun HB1_20 HKY1_20 HSC2_20=>have HCJ:=Tn (fun W(B:aq W20 W)=>mD HTR (HTAB_20.ext B) (HENV_20.ext B) (HKD_20.ext B) (HB1_20.ext B) HL1 (n:=1) (kc:=kc1) rfl Pi (by have:=HKC1.out.1;omega) HKC1.2 (fun i x hx=>((HKY1_20.take 1).ext B) i x hx) (fun k hk=>List.mem_of_mem_take hk) (HSC2_20.ext B) b.zx (ses:=8) (ser:=1) rfl (fun _=>b.out.g1) b.j rfl rfl);?_;have X0:EX (Jl W20 SX da2 dc2 ua2 uc2 va2 vc2 a1 n1 c1 ka1 kc1 ra rn rc na nn nc):=by repeat first|exact Gl|refine EC ?_|refine Gx ?_|refine Ek (fun v w w'⟨g,t9,L,h1⟩B=>⟨g,t9,L,ai h1 B⟩) ?_|refine Ek (fun v w w'⟨g2,t9,L,h1⟩B=>⟨g2,t9,L,ai h1 B⟩) ?_
 have X1:EX (MF W20 SX da2 dc2 ua2 uc2 va2 vc2 a1 n1 c1 ka1 kc1 ra rn rc na nn nc):=X0.stv;refine(wpIn_wide (n:=0)).1 ?_;refine bu (r:=U8) 15 [12,13] [cT,cT,cT,cT,cT,cT,cT,cT,(false,0,1),(false,0,2),cT,cT,(true,0,0),(true,1,0),(false,2,2)] [Ts 131,Ts 132,Ts 133,Ts 134,Ts 135,Ts 136,Ts 130,Ts 137,Ts 138,Ts 139,Ts 26,Ts 27,U8,U8,Ts 28] Pg Pg Pg [aq W20,aq W20,aq W20] (En yk yk yk) [Jl W20 SX da2 dc2 ua2 uc2 va2 vc2 a1 n1 c1 ka1 kc1 ra rn rc na nn nc,MF W20 SX da2 dc2 ua2 uc2 va2 vc2 a1 n1 c1 ka1 kc1 ra rn rc na nn nc,ah7 W20 SX da2 dc2 ua2 uc2 va2 vc2 a1 n1 c1 ka1 kc1 ra rn rc na nn nc] (En X0 X1 (X1.stv)) ?k0 ?steps ?fin
 case k0=>exact ap W20
 case steps=>
  refine⟨lA,lA,lA,lA,lA,?_,lA,lA,lA,lA,?_,?_,?_,?_,lA,trivial⟩
  .intro s vs w' hlo hhi hl hK hd;obtain rfl:s=0:=Ph;clear hlo hhi;have HK0:Hid (aq W20 w'):=hK;clear hK;simp only[aK,Ua,PV];(try rw[dq hd 0 Pg rfl]);(try rw[dq hd 1 Pg rfl]);(try rw[dq hd 3 Pg rfl]);(try rw[dq hd 4 Pg rfl]);have HL:=Tn hl;clear hd hl;unfold ak;go_simp;go_at_call 9;refine(HCJ _ HK0).mono ?_;rintro e w5⟨hE5,R,_⟩;exact⟨_,R Pi,rfl,hE5⟩
  .intro s vs w' hlo hhi hl hK hd;obtain rfl:s=0:=Ph;clear hlo hhi;have HK0:Hid (aq W20 w'):=hK;exact Tj
  .intro s vs w' hlo hhi hl hK hd;obtain rfl:s=0:=Ph;clear hlo hhi;have HK0:Hid (aq W20 w'):=hK;exact Tj
  .intro vs w' hl hK hd;have HK0:Hid (aq W20 w'):=hK;clear hK;have t9:=hd 0 Pi Pg;have h_1:=hd 1 Pi Pg;have h_2:=hd 2 Pi Pg;have h_3:=hd 3 Pi Pg;have h_4:=hd 4 Pi Pg;have h_5:=hd 5 Pi Pg;have h_6:=hd 6 Pi Pg;have h_7:=hd 7 Pi Pg;have a8:=hd 10 Pi Pg;have K:=hd 11 Pi Pg;simp only[PW,Jl]at t9 h_1 h_2 h_3 h_4 h_5 h_6 h_7 a8 K;refine UX a8 fun g a8=>have hv_10:=a8.1;P4 a8.2.1 a8.2.2 fun H_10_0 d=>?_;clear a8;refine UX K fun g2 K=>have al:=K.1;P4 K.2.1 K.2.2 fun H_11_0 ab=>?_;clear K;simp only[aK,Ua,PV];(try rw[t9]);(try rw[h_1]);(try rw[h_2]);(try rw[h_3]);(try rw[h_4]);(try rw[h_5]);(try rw[h_6]);(try rw[h_7]);(try rw[hv_10]);(try rw[al]);refine PH t9 h_1 h_2 h_3 h_4 h_5 h_6 h_7 hv_10 al fun Kh_0 Kh_1 Kh_2 Kh_3 Kh_4 Kh_5 Kh_6 Kh_7 Khv_10 Khv_11=>?_;clear t9 h_1 h_2 h_3 h_4 h_5 h_6 h_7 hv_10 al;have HL:=Tn hl;clear hd hl;have HST:=Tn (cu d (Ti Tl 0) (Ti Tt 0) (U1 false) (U1 false) (zz) (zz) (zz));refine PX d fun e0 am e2 e3 e4 e5 e6=>PY d fun fz0 fz1 fz2 fz3 fz4 fz5 fz6=>bg fun Post hP=>have HP:=Tn hP;?_;clear hP;unfold aN;go_simp;refine HP.out _ _ ⟨HK0.trans (HST.2.below HK0.size (fun i hi=>Rv)),trivial,akF HST.2 d⟩
  intro vs w' hl hK hd;have HK0:Hid (aq W20 w'):=hK;clear hK;have t9:=hd 0 Pi Pg;have h_1:=hd 1 Pi Pg;have h_2:=hd 2 Pi Pg;have h_3:=hd 3 Pi Pg;have h_4:=hd 4 Pi Pg;have h_5:=hd 5 Pi Pg;have h_6:=hd 6 Pi Pg;have h_7:=hd 7 Pi Pg;have h_8:=hd 8 Pi Pg;have K:=hd 11 Pi Pg;simp only[Ua,PV,MF,Jl]at t9 h_1 h_2 h_3 h_4 h_5 h_6 h_7 h_8 K;refine UX K fun g2 K=>have al:=K.1;P4 K.2.1 K.2.2 fun H_11_0 ab=>?_;clear K;simp only[aK,Ua,PV];(try rw[t9]);(try rw[h_1]);(try rw[h_2]);(try rw[h_3]);(try rw[h_4]);(try rw[h_5]);(try rw[h_6]);(try rw[h_7]);(try rw[h_8]);(try rw[al]);refine PH t9 h_1 h_2 h_3 h_4 h_5 h_6 h_7 h_8 al fun Kh_0 Kh_1 Kh_2 Kh_3 Kh_4 Kh_5 Kh_6 Kh_7 Kh_8 Khv_11=>?_;clear t9 h_1 h_2 h_3 h_4 h_5 h_6 h_7 h_8 al;have HL:=Tn hl;clear hd hl;have HST:=Tn (dt ab (Ti Tl 0) (Ti Tt 0));refine PM ab fun e0 am=>PO ab fun fz0 fz1=>bg fun Post hP=>have HP:=Tn hP;?_;clear hP;unfold aN;go_simp;refine HP.out _ _ ⟨HK0.trans (HST.2.below HK0.size (fun i hi=>by have:=H_11_0.out;have e':i=g2:=hi;omega)),trivial,TR.go Bt⟩
 intro vs w' hl hK hd;have HK0:Hid (aq W20 w'):=hK;clear hK;have h_14:=hd 14 Pi;simp only[List.length_cons,List.length_nil,Ua,PV,ah7,MF,Jl]at h_14;simp only[aK,Ua,PV];rw[h_14];clear h_14;iterate 12 (try generalize vs.getD _ undef=xq)
 clear hd hl;have HX21:=Tn HK0.out;obtain⟨W21,hW21⟩:∃V,V=w':=⟨_,rfl⟩;subst hW21;clear HK0 HCJ;have HJ21:=Tn (HX21);go_upto_region 13 with fail;have J:=Tn (ai HRGY_20 HJ21);refine PX J fun g0 g1 g2 g3 g4 g5 g6=>?_;go_wp2_with fail;have HSC2_21:=Tn (HSC2_20.ext HJ21);refine(IS HSC2_21 b.zx b.k b.kz).mono ?_;rintro e W22⟨B,R,u⟩;clear g0 g1 g2 g3 g4 g5 g6;obtain⟨x3,he,hC⟩:=u rfl;subst he;obtain⟨da3,dc3,u3,v3⟩:=x3;obtain⟨ua3,uc3,va3,vc3,X,hv⟩:=hC.sto.form;dsimp only at X hv;subst X hv;unfold eK;dsimp only;have HSC3:=Tn hC;clear R u hC;have HJ22:=Tn (B);clear B;refine nV W22 (Tq #[Ti Tl SZ.share.id,ag SZ.share.x,U1 SZ.bad,U1 SZ.up,Tm da3 SZ.done.length dc3,Tm ua3 SZ.store.safe.length uc3,Tm va3 SZ.store.opn.length vc3] 44) fun GZ W23 HQGZ HQW23 HXW23 a5=>have HJ23:=Tn (HXW23);?_;go_upto_region 14 with fail;try rw[HQGZ.out]
 try rw[HQW23.out]
 have A:=Tn (aa (aa HJ21 HJ22) HJ23);have ba:=Tn (ai HRGT_20 A);refine PX a5 fun g0 g1 g2 g3 g4 g5 g6=>PM ba fun t0 t1=>?_;go_wp2_with fail;refine P9 (HTAB_20.ext A) (HENV_20.ext A) (HKD_20.ext A) (HB1_20.ext A) (HKY1_20.ext A) (HSC3.ext HJ23) fun HTAB_23 HENV_23 HKD_23 HB1_23 HKY1_23 HSC3_23=>(mD (HTR) HTAB_23 HENV_23 HKD_23 HB1_23 HL1 rfl Pi HKC1.1 HKC1.2 HKY1_23 (fun _ h=>h) HSC3_23 b.zz rfl (fun _=>b.out.g1) b.m rfl rfl).mono ?_;rintro e W24⟨B,R,u⟩;clear g0 g1 g2 g3 g4 g5 g6 t0 t1;have he:=R Pi;subst he;clear R u;have HJ24:=Tn (B);clear B;refine nV W24 (Tq #[Ti Tl 0,Ti Tt 0,U1 false,U1 false,zz,zz,zz] 44) fun GM1 W25 HQGM1 HQW25 HXW25 HRGM1=>have HJ25:=Tn (HXW25);nV W25 (Tq #[Ti Tl 0,Ti Tt 0] 39) fun GM2 W26 HQGM2 HQW26 HXW26 HRGM2=>have HJ26:=Tn (HXW26);?_;have U:GM1+1=GM2:=by rw[<-HQGM2.out,<-HQW25.out,Ud,HQGM1.out]
 go_upto_region 15 with fail;try rw[HQGM1.out]
 try rw[U]
 try rw[HQW25.out]
 try rw[HQW26.out]
 clear U;have an:=Tn (aa (aa HJ24 HJ25) HJ26);have M:=Tn (ai a5 an);refine PX M fun g0 g1 g2 g3 g4 g5 g6=>?_;go_wp2_with fail;have HSC3_26:=Tn (HSC3_23.ext an);refine(NB HSC3_26 b.zz b.n b.nw).mono ?_;rintro e W27⟨B,R,u⟩;clear g0 g1 g2 g3 g4 g5 g6;obtain⟨x4,he,hC⟩:=u rfl;subst he;obtain⟨da4,dc4,u4,v4⟩:=x4;obtain⟨ua4,uc4,va4,vc4,X,hv⟩:=hC.sto.form;dsimp only at X hv;subst X hv;unfold eK;dsimp only;have HSC4:=Tn hC;clear R u hC;have HJ27:=Tn (B);clear B;refine nV W27 (Tq #[Ti Tl SW.share.id,ag SW.share.x,U1 SW.bad,U1 SW.up,Tm da4 SW.done.length dc4,Tm ua4 SW.store.safe.length uc4,Tm va4 SW.store.opn.length vc4] 44) fun GV W28 HQGV HQW28 HXW28 HRGV=>have HJ28:=Tn (HXW28);?_;go_upto_region 16 with fail;try rw[HQGV.out]
 try rw[HQW28.out]
 have a0:=Tn (aa (aa (aa (aa (aa T y) A) an) HJ27) HJ28);have Q:=Tn (ai a6 a0);refine PX Q fun g0 g1 g2 g3 g4 g5 g6=>P4 b.out.o b.out.ob fun HCO1 HCO2=>?_;rw[HS0.out]at HCO1 HCO2;go_wp2_with fail;have HSC0_28:=Tn (HSC0.ext a0);refine(Kf HSC0_28 HZ0 HCO1 HCO2).mono ?_;rintro e W29⟨B,R,u⟩;clear g0 g1 g2 g3 g4 g5 g6;obtain⟨x5,he,hC⟩:=u rfl;subst he;obtain⟨da5,dc5,u5,v5⟩:=x5;obtain⟨ua5,uc5,va5,vc5,X,hv⟩:=hC.sto.form;dsimp only at X hv;subst X hv;unfold eK;dsimp only;have HSC5:=Tn hC;clear R u hC;have HJ29:=Tn (B);clear B;refine nV W29 (Tq #[Ti Tl SB.share.id,ag SB.share.x,U1 SB.bad,U1 SB.up,Tm da5 SB.done.length dc5,Tm ua5 SB.store.safe.length uc5,Tm va5 SB.store.opn.length vc5] 44) fun GB5 W30 HQGB5 HQW30 HXW30 ah=>have HJ30:=Tn (HXW30);?_;go_upto_region 17 with fail;try rw[HQGB5.out]
 try rw[HQW30.out]
 refine PX ah fun g0 g1 g2 g3 g4 g5 g6=>?_;go_wp2_with fail;have Y:=Tn (aa (aa (aa (aa an HJ27) HJ28) HJ29) HJ30);refine P3 (HENV_23.ext Y) (HKD_23.ext Y) (aa (aa y A) Y) fun HENV_30 HKD_30 HJ17_30=>P4 (HB3_17.ext HJ17_30) (HSC5.ext HJ30) fun HB3_30 HSC5_30=>P1 (bN SB ⟨8,2,bF s3⟩) fun S6 hS6=>P1 (cE SB.share 8 s3) fun c6 hc6=>P4 hS6 hc6 fun HS6 HC6=>?_;clear hS6 hc6;refine(On HENV_30 HKD_30 HB3_30 HL3 HSC5_30 b.zb b.g3 b.pp HS6 HC6).mono ?_;rintro e W31⟨B,R,u⟩;clear g0 g1 g2 g3 g4 g5 g6;obtain⟨x6,he,hC⟩:=u rfl;subst he;obtain⟨da6,dc6,u6,v6⟩:=x6;obtain⟨ua6,uc6,va6,vc6,X,hv⟩:=hC.sto.form;dsimp only at X hv;subst X hv;unfold eK;dsimp only;clear R u hC;have HJ31:=Tn (B);clear B;refine nV W31 (Tq #[Ti Tl S6.share.id,ag S6.share.x,U1 S6.bad,U1 S6.up,Tm da6 S6.done.length dc6,Tm ua6 S6.store.safe.length uc6,Tm va6 S6.store.opn.length vc6] 44) fun GP1 W32 HQGP1 HQW32 HXW32 HRGP1=>have HJ32:=Tn (HXW32);nV W32 (Tq #[Ti Tl c6.id,ag c6.x] 39) fun GP2 ad HQGP2 HQW33 HXW33 HRGP2=>have HJ33:=Tn (HXW33);?_;have U:GP1+1=GP2:=by rw[<-HQGP2.out,<-HQW32.out,Ud,HQGP1.out]
 go_upto_region 18 with fail;try rw[HQGP1.out]
 try rw[U]
 try rw[HQW32.out]
 try rw[HQW33.out]
 clear U;have hd1:SX.done.length=1:=Zbg;have hd4:SW.done.length=1:=Zbh;go_upto_region 19 with fail;have HJ13_33:=Tn (aa (aa (aa (aa (aa (aa HJ14 a9) A) Y) HJ31) HJ32) HJ33);refine P4 (ai D HJ13_33) (aa (aa (aa (aa HJ29 HJ30) HJ31) HJ32) HJ33) fun H a4=>P4 (ai HRGV a4) (aa (aa (aa Y HJ31) HJ32) HJ33) fun F ao=>have HRGT_33:=Tn (ai ba ao);PX H fun g0 g1 g2 g3 g4 g5 g6=>PX F fun v0 v1 v2 v3 v4 v5 v6=>PM HRGT_33 fun t0 t1=>?_;go_upto_region 21 with fail;clear hd1 hd4;go_wp2_with fail;refine P4 (HTAB_23.ext ao) (aa (aa HJ31 HJ32) HJ33) fun HTAB_33 a7=>P3 (HENV_30.ext a7) (HKD_30.ext a7) (aa (aa HJ4_10 a0) a4) fun HENV_33 HKD_33 HJ4_33=>P3 (HB2.ext HJ4_33) (HKY1_23.ext ao) (aa HJ28 a4) fun HB2_33 HKY1_33 HJ27_33=>have HSC4_33:=Tn (HSC4.ext HJ27_33);(mD (HTR) HTAB_33 HENV_33 HKD_33 HB2_33 HL2 rfl Pi HKC1.1 HKC1.2 HKY1_33 (fun _ h=>h) HSC4_33 b.zw rfl (fun _=>b.out.g2) b.q rfl rfl).mono ?_;rintro e W34⟨B,R,u⟩;clear g0 g1 g2 g3 g4 g5 g6 v0 v1 v2 v3 v4 v5 v6 t0 t1;have he:=R Pi;subst he;clear R u;have HJ34:=Tn (B);clear B;refine nV W34 (Tq #[Ti Tl 0,Ti Tt 0,U1 false,U1 false,zz,zz,zz] 44) fun GR1 W35 HQGR1 HQW35 HXW35 HRGR1=>have HJ35:=Tn (HXW35);nV W35 (Tq #[Ti Tl 0,Ti Tt 0] 39) fun GR2 W36 HQGR2 HQW36 HXW36 HRGR2=>have HJ36:=Tn (HXW36);?_;have U:GR1+1=GR2:=by rw[<-HQGR2.out,<-HQW35.out,Ud,HQGR1.out]
 go_upto_region 22 with fail;try rw[HQGR1.out]
 try rw[U]
 try rw[HQW35.out]
 try rw[HQW36.out]
 clear U;have HJ33_36:=Tn (aa (aa HJ34 HJ35) HJ36);refine P4 (HB2_33.ext HJ33_36) (aa ao HJ33_36) fun HB2_36 HJ23_36=>have HB1_36:=Tn (HB1_23.ext HJ23_36);?_;obtain⟨z22,hz22⟩:∃k,(bF s2==bF s1)=k:=⟨_,rfl⟩;have hsq:=fun w=>Av (bF s2) (bF s1) w;rw[hz22]at hsq;refine P4 (fun W(B:aq W36 W)=>fF s2 _ W (HB2_36.ext B) (by have:=HL2.out;omega)) (fun W(B:aq W36 W)=>fF s1 _ W (HB1_36.ext B) (by have:=HL1.out;omega)) fun HU2 HU1=>?_;clear hz22;refine aG (fun w'=>aq W36 w') P0 ?_;iterate 2
  (first|refine az rfl rfl rfl rfl ?_|refine aF rfl rfl rfl rfl ?_|refine aw rfl ?_|refine aj rfl rfl rfl rfl rfl ?_|refine dS rfl rfl rfl rfl rfl ?_|((first|refine av (v:=?_) rfl rfl (fun hb w' l=>?_) ?_|refine ar (v:=?_) rfl rfl rfl (fun hb1 hb w' l=>?_) ?_|refine ax (v:=?_) rfl (fun w' l=>?_) ?_);rotate_left;(focus(have f0:=l;unfold ak;go_simp;first|exact aD l|(go_at_call 10;refine(HU2 _ l).mono ?_;rintro e w''⟨rfl,h2⟩;exact aH (aa l h2))))))
  simp only[Ua,P7]
 repeat
  (first|refine az rfl rfl rfl rfl ?_|refine aF rfl rfl rfl rfl ?_|refine aw rfl ?_|refine aj rfl rfl rfl rfl rfl ?_|((first|refine av (v:=?_) rfl rfl (fun hb w' l=>?_) ?_|refine ar (v:=?_) rfl rfl rfl (fun hb1 hb w' l=>?_) ?_|refine ax (v:=?_) rfl (fun w' l=>?_) ?_);rotate_left;(focus(have f0:=l;unfold ak;go_simp;first|exact aD l|(go_at_call 10;refine(HU1 _ l).mono ?_;rintro e w''⟨rfl,h2⟩;exact aH (aa l h2))))))
  simp only[Ua,P7]
 refine aA fun W37 B=>have HJ37:=Tn (B);?_;clear B hsq HU1 HU2;have f:=Tn (aa HJ33_36 HJ37);refine P4 (HSC4_33.ext f) (aa (aa (aa a9 A) HJ23_36) HJ37) fun HSC4_37 HJ14_37=>PG (HSC1_14.ext HJ14_37) (HCW_14.ext HJ14_37) (HB1_36.ext HJ37) (HTAB_33.ext f) (HENV_33.ext f) (HKD_33.ext f) (HKY1_33.ext f) fun HSC1_37 HCW_37 HB1_37 HTAB_37 HENV_37 HKD_37 HKY1_37=>?_;obtain⟨b4,o4,hb4,y40,y41,y42,y43⟩:=HSC4_37.out.done 0 ⟨7,1,bF s1⟩ Zbh;obtain⟨b1,o1,hb1,y10,y11,y12,y13⟩:=HSC1_37.out.done 0 ⟨7,1,bF s1⟩ Zbg;simp only[Nat.zero_mul,Nat.add_zero]at y40 y41 y42 y43 y10 y11 y12 y13 hb4 hb1;refine PH hb4 hb1 y40 y41 y42 y43 y10 y11 y12 y13 fun HB4A HB1A HD40 HD41 HD42 HD43 HD10 HD11 HD12 HD13=>?_;clear y40 y41 y42 y43 y10 y11 y12 y13 hb4 hb1;have HL4:Hid (SW.done.length=1):=Tn Zbh;have HLX:Hid (SX.done.length=1):=Tn Zbg;refine P4 HSC4_37.out.dl HSC1_37.out.dl fun HDC4 HDC1=>?_;rw[HL4.out]at HDC4;rw[HLX.out]at HDC1;refine P4 (fun W(B:aq W37 W)a(z:cr 2 eF W a [cm])=>aa7 HCRW (HCW_37.ext B) (HB1_37.ext B) HL1 b.px z b.ck) (fun W(B:aq W37 W)=>aeV HTR HTAB_37 HENV_37 HKD_37 HB1_37 HL1 rfl Pi HKC1.1 HKC1.2 HKY1_37 (fun _ h=>h) W B) fun HCP HMY=>?_;rw[b.out.my]at HMY;have HCK:=Tn (fun W(B:aq W37 W)=>eo SW _ W (HSC4_37.ext B) (by rw[HL4.out];decide));rw[b.out.cw]at HCK;have HCZ:=Tn (fun W=>eo ⟨⟨0,0⟩,false,false,[],⟨[],[]⟩⟩ ⟨U8,0,zz,zz⟩ W (agG W) Pi);rw[show bJ ⟨⟨0,0⟩,false,false,[],⟨[],[]⟩⟩=1 from Pi]at HCZ;refine P3 (ai F f) (ai H f) (aa HJ13_33 f) fun HRGV_37 HRGX_37 HJ13_37=>P3 (ai Z HJ13_37) (ai HRGM HJ13_37) (aa (aa HJ17_30 a7) f) fun HRGW_37 HRGM_37 HJ17_37=>P4 (ai HRGQ HJ17_37) (ai HRGT_33 f) fun HRGQ_37 HRGT_37=>?_;go_upto_region 23 with fail;have hdd:=fun w=>Nr ⟨7,1,bF s1⟩ ⟨7,1,bF s1⟩ w;simp only[beq_self_eq_true,p4]at hdd;refine(wpIn_wide (n:=0)).1 ?_;refine bQ (r:=U8) Pg Pg (fun _ _=>False) (fun _ _ _ _ h=>h.elim) W37 P0 ?_;iterate 55
  first
  |(refine jD (x:=?_) (fun _=>rfl) (fun vs w' l hd=>?_) ?_;rotate_left;(focus(unfold ak;go_simp;first|exact aD P0|(have hr:=ai HRGV_37 l;have z4:=Uc w' GV 4 _ _ _ hr;rw[HL4.out,HB4A.out]at z4;have N:=HDC4.out;go_simp;exact aD P0)|(have hr:=ai HRGX_37 l;have z4:=Uc w' GX 4 _ _ _ hr;rw[HLX.out,HB1A.out]at z4;have N:=HDC1.out;go_simp;exact aD P0)|(have N:=HDC4.out;have hp:=HDC1.out;go_simp;exact aD P0)|(have d0:=ae HD40 l;have d1:=ae HD41 l;have d2:=ae HD42 l;have d3:=ae HD43 l;go_simp;exact aD P0)|(have d0:=ae HD10 l;have d1:=ae HD11 l;have d2:=ae HD12 l;have d3:=ae HD13 l;go_simp;exact aD P0)|(have hr:=ai HRGW_37 l;refine PR hr fun z0 z1 z2 z3=>?_;go_simp;exact aD P0)|(have hr:=ai HRGM_37 l;refine PM hr fun z0 z1=>?_;go_simp;exact aD P0)|(have hr:=ai HRGQ_37 l;refine PM hr fun z0 z1=>?_;go_simp;exact aD P0)|(have hr:=ai HRGT_37 l;refine PM hr fun z0 z1=>?_;go_simp;exact aD P0)|(have hr:=ai HRGV_37 l;refine PX hr fun z0 z1 z2 z3 z4 z5 z6=>?_;go_simp;exact aD P0)|(go_at_call 17;obtain⟨g,S,z⟩:=hd _ (.head _) Pg;dsimp only at S;rw[S];refine(HCP _ l _ z).mono ?_;rintro e w5⟨rfl,hE5⟩;exact aH hE5)|(go_at_call 18;refine P2 (HMY _ l) fun w5 hE5=>?_;exact aH hE5)|(go_at_call 15;refine P2 (HCK _ l) fun w5 hE5=>?_;exact aH hE5)));simp only[Ua,P7,VO])
  |(refine nZ (fun v w=>∃g,v=Tm (Ts ⟨g,0,U8⟩) 1 1/\cr 2 eF w (Ts ⟨g,0,U8⟩) [cm]) (fun v w w'⟨g,L,h1⟩B=>⟨g,L,h1.ext B⟩) (fun _=>rfl) (fun vs w' l hd G hG=>?_) ?_;(focus(unfold ak;go_simp;have hr:=ai HRGM_37 l;refine PM hr fun z0 z1=>?_;exact hG _ _ ⟨_,rfl,Aj cm w' b.cx⟩ (af P0 _)));simp only[Ua,P7,VO])
 repeat
  first
  |(refine jD (x:=?_) (fun _=>rfl) (fun vs w' l hd=>?_) ?_;rotate_left;(focus(unfold ak;go_simp;first|exact aD P0|(go_at_call 15;refine(HCZ _).mono ?_;rintro e w5⟨rfl,hE5⟩;exact aH hE5)));simp only[Ua,P7,VO])
 refine qF fun vs w' B hd=>have HJ0_37:=Tn (aa (aa (aa HJ0_10 a0) a4) f);have HEXT_37:=Tn (aa HEXT HJ0_37);?_;go_wp2;go_ret;exact⟨rfl,aa HEXT_37 B⟩
end
section
open Go.ChangeShapes Go.WideShapes Go.ChangeAt
def xw:List (String×DataW Unit):=Rows.signerOnceRow.laid
def we{H:Type}{enc:TypeId×UV->H}{P:Program}{w fuel t k n}{v:UV}{q:List MemPlace}(b:P.underlying t=Ts (.int k))(h:Yg enc P w 0 (fun _=>true) true fuel t [v]=Ts (.lit (.int k n),q)):v= .int k n:=by
 cases fuel with
 |zero=>simp[Yg]at h
 |succ m=>
  exact Uf
def NZ{W}(L:laidMetH UB xw W):aU W:=by
 have K:("greatseal/der.kinds",(Rows.laid_greatseal_der_kinds:DataW Unit))∈xw:=by unfold xw Rows.signerOnceRow;simp
 obtain ⟨g,t,cs,fuel,p,S,ht,hv,X⟩:=L.funcs K;have eg:UB.globalNamed "greatseal/der.kinds"=Ts 2:=Pg;have et:(UB.globals[2]?).map (·.type)=Ts 382:=Pg;obtain rfl:=Vm (eg.symm.trans S);obtain rfl:=Vm (et.symm.trans ht);have H:Yg (ZN UB) UB W 0 (fun _=>true) true fuel 382 cs.toList=Ts (.agg [.agg [.lit (.int .i64 1),.held [103,114,101,97,116,115,101,97,108,47,100,101,114,46,107,105,110,100,115,36,49]],.agg [.lit (.int .i64 2),.held [103,114,101,97,116,115,101,97,108,47,100,101,114,46,108,101,97,115,116]],.agg [.lit (.int .i64 4),.held [103,114,101,97,116,115,101,97,108,47,100,101,114,46,107,105,110,100,115,36,50]],.agg [.lit (.int .i64 12),.held [103,114,101,97,116,115,101,97,108,47,100,101,114,46,107,105,110,100,115,36,51]],.agg [.lit (.int .i64 48),.held [103,114,101,97,116,115,101,97,108,47,100,101,114,46,107,105,110,100,115,36,52]]],p):=X;obtain ⟨xs,m,_,Q,c,hn,b⟩:=DataW.trod_array underlying382 H;rw[show UB.cellsOf 382=10 from Pg] at c;rw[show UB.cellsOf 341=2 from Pg] at b;have f:=fun k=>World.var?_cell S hv k;refine P1 cs.toList fun l T=>?_;have N:∀k,cs[k]? =l[k]? :=fun k=>by rw[←T,Array.getElem?_toList]
 rw[T] at c b;match l,c,xs,hn with
 |[c0,c1,c2,c3,c4,c5,G,x,J,s],_,[x0,j,r,z,u],_=>
  simp only[List.map_cons,List.map_nil,Yy,DataW.agg.injEq,Yq] at Q;obtain ⟨⟨E,O,M,I,F,_⟩,_⟩:=Q;obtain ⟨y0,z0,n0,D,_,a0,b0⟩:=trod_struct2 underlying341 (show Yg (ZN UB) UB W 0 (fun _=>true) true m 341 [c0,c1]=Ts x0 from b 0 Pi);rw[show x0=(x0.1,x0.2) from rfl,←E] at D;simp only[Yy,DataW.agg.injEq,Yq] at D;have Y:c0= .int .i64 1:=we (fuel:=n0) (q:=y0.2) underlying3 (by rw[D.1.1];exact a0);have v0:c1= .func (.func 342) #[] #[]:=Go.func_of_trod (f0:=342) (q:=z0.2) underlying171 Pg (show Yg (ZN UB) UB W 0 (fun _=>true) true n0 171 [c1]=Ts (.held [103,114,101,97,116,115,101,97,108,47,100,101,114,46,107,105,110,100,115,36,49],z0.2) by rw[D.1.2.1];exact b0);obtain ⟨y1,P,n1,am,_,a1,b1⟩:=trod_struct2 underlying341 (show Yg (ZN UB) UB W 0 (fun _=>true) true m 341 [c2,c3]=Ts j from b 1 Pi);rw[show j=(j.1,j.2) from rfl,←O] at am;simp only[Yy,DataW.agg.injEq,Yq] at am;have u1:c2= .int .i64 2:=we (fuel:=n1) (q:=y1.2) underlying3 (by rw[am.1.1];exact a1);have v1:c3= .func (.func 207) #[] #[]:=Go.func_of_trod (f0:=207) (q:=P.2) underlying171 Pg (show Yg (ZN UB) UB W 0 (fun _=>true) true n1 171 [c3]=Ts (.held [103,114,101,97,116,115,101,97,108,47,100,101,114,46,108,101,97,115,116],P.2) by rw[am.1.2.1];exact b1);obtain ⟨y2,R,n2,A,_,a2,b2⟩:=trod_struct2 underlying341 (show Yg (ZN UB) UB W 0 (fun _=>true) true m 341 [c4,c5]=Ts r from b 2 Pi);rw[show r=(r.1,r.2) from rfl,←M] at A;simp only[Yy,DataW.agg.injEq,Yq] at A;have Z:c4= .int .i64 4:=we (fuel:=n2) (q:=y2.2) underlying3 (by rw[A.1.1];exact a2);have v2:c5= .func (.func 343) #[] #[]:=Go.func_of_trod (f0:=343) (q:=R.2) underlying171 Pg (show Yg (ZN UB) UB W 0 (fun _=>true) true n2 171 [c5]=Ts (.held [103,114,101,97,116,115,101,97,108,47,100,101,114,46,107,105,110,100,115,36,50],R.2) by rw[A.1.2.1];exact b2);obtain ⟨y3,z3,n3,B,_,a3,b3⟩:=trod_struct2 underlying341 (show Yg (ZN UB) UB W 0 (fun _=>true) true m 341 [G,x]=Ts z from b 3 Pi);rw[show z=(z.1,z.2) from rfl,←I] at B;simp only[Yy,DataW.agg.injEq,Yq] at B;have u3:G= .int .i64 12:=we (fuel:=n3) (q:=y3.2) underlying3 (by rw[B.1.1];exact a3);have v3:x= .func (.func 344) #[] #[]:=Go.func_of_trod (f0:=344) (q:=z3.2) underlying171 Pg (show Yg (ZN UB) UB W 0 (fun _=>true) true n3 171 [x]=Ts (.held [103,114,101,97,116,115,101,97,108,47,100,101,114,46,107,105,110,100,115,36,51],z3.2) by rw[B.1.2.1];exact b3);obtain ⟨y4,z4,V,C,_,a4,b4⟩:=trod_struct2 underlying341 (show Yg (ZN UB) UB W 0 (fun _=>true) true m 341 [J,s]=Ts u from b 4 Pi);rw[show u=(u.1,u.2) from rfl,←F] at C;simp only[Yy,DataW.agg.injEq,Yq] at C;have u4:J= .int .i64 48:=we (fuel:=V) (q:=y4.2) underlying3 (by rw[C.1.1];exact a4);have v4:s= .func (.func 347) #[] #[]:=Go.func_of_trod (f0:=347) (q:=z4.2) underlying171 Pg (show Yg (ZN UB) UB W 0 (fun _=>true) true V 171 [s]=Ts (.held [103,114,101,97,116,115,101,97,108,47,100,101,114,46,107,105,110,100,115,36,52],z4.2) by rw[C.1.2.1];exact b4);have d:∀k v,[c0,c1,c2,c3,c4,c5,G,x,J,s][k]? =Ts v→W.cell? ⟨2,k,U8⟩=Ts v:=fun k v o=>by
   have:=f k;rw[N k,o] at this;exact this
  intro i y U;match i,U with
  |0,U=>cases U;exact ⟨_,0,rfl,(d 0 _ rfl).trans (by rw[Y]),(d 1 _ rfl).trans (by rw[v0];rfl)⟩
  |1,U=>cases U;exact ⟨_,0,rfl,(d 2 _ rfl).trans (by rw[u1]),(d 3 _ rfl).trans (by rw[v1];rfl)⟩
  |2,U=>cases U;exact ⟨_,0,rfl,(d 4 _ rfl).trans (by rw[Z]),(d 5 _ rfl).trans (by rw[v2];rfl)⟩
  |3,U=>cases U;exact ⟨_,0,rfl,(d 6 _ rfl).trans (by rw[u3]),(d 7 _ rfl).trans (by rw[v3];rfl)⟩
  |4,U=>cases U;exact ⟨_,0,rfl,(d 8 _ rfl).trans (by rw[u4]),(d 9 _ rfl).trans (by rw[v4];rfl)⟩
def afK:Array UV:=#[Ti Tl 1,.func (.func 342) #[] #[],Ti Tl 2,.func (.func 207) #[] #[],Ti Tl 4,.func (.func 343) #[] #[],Ti Tl 12,.func (.func 344) #[] #[],Ti Tl 48,.func (.func 347) #[] #[]]
noncomputable def jo(os:Os):UN:={zd os with heap:=aiV (zd os).heap 2 afK}
def Hf(os:Os)(args:Array UV):laidMetH UB xw ((jo os).forCall (fun _ _=>0) ⟨#[],args,[]⟩).memory:=
 laidMetH_of_parts3 (fuel:=8) (laidMet_of_run' 8 Pg Pg) Pg Pg
def af1(os:Os)(args:Array UV):((jo os).forCall (fun _ _=>0) ⟨#[],args,[]⟩).variablesB UB=true:=Pg
def agR(os:Os)(args:Array UV):(((jo os).forCall (fun _ _=>0) ⟨#[],args,[]⟩).heap.toList.drop UB.globals.size).take ((begin UB (fun _ _=>0) default).world.heap.size-UB.globals.size)=
   (begin UB (fun _ _=>0) default).world.heap.toList.drop UB.globals.size:=Pg
section
variable {H:Type} {enc:TypeId×UV->H} {w:UN}
def acA(b o)(f:List UV)(d:f.length=4)(J:∀j v,f[j]?=Ts v->w.cell? ⟨b,o+j,U8⟩=Ts v)(h:yo enc UB w 49 f):∃r:LM,ag9 w b o r/\True:=by
 have g:=underlying49;match f,d with
 |[p,am,q,m],_=>
  obtain⟨v0,L,_⟩:=(h.at g 0 3 0 1 rfl Pg).int underlying3;obtain⟨l,h1,_⟩:=(h.at g 1 3 1 1 rfl Pg).int underlying3;obtain⟨v2,c,_⟩:=(h.at g 2 3 2 1 rfl Pg).int underlying3;obtain⟨v3,A,_⟩:=(h.at g 3 3 3 1 rfl Pg).int underlying3;exact⟨⟨v0,l,v2,v3⟩,⟨J 0 _ (uJ L),J 1 _ (uJ h1),J 2 _ (uJ c),J 3 _ (uJ A)⟩,trivial⟩
def aaH{cs:List UV}(h:yo enc UB w 22 cs):∃a l cap,cs=[Tm a (l:List LM).length cap]/\l.length<=cap/\cap<=maxLen/\cr 4 ag9 w a l:=by
 obtain⟨a,l,cap,h1,c,A,b,_⟩:=h.list (R:=ag9) (Q:=fun _=>True) (C:=4) underlying22 Pg Pi acA;exact⟨a,l,cap,h1,c,A,b⟩
end
end
end Go.Proofs.YtjmgalpkbkcmkaaGreatDoor

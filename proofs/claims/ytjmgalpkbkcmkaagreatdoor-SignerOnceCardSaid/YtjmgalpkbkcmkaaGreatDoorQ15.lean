/- Lemmas for SignerOnce. Conditions: in each statement. -/
import Derived.Test.YtjmgalpkbkcmkaaGreatDoorQ12
import Derived.Test.YtjmgalpkbkcmkaaGreatDoorQ13
import Derived.Test.YtjmgalpkbkcmkaaGreatDoorQ20
set_option maxRecDepth 100000
set_option maxHeartbeats 16000000
set_option linter.all false
namespace Go.Proofs.YtjmgalpkbkcmkaaGreatDoor
open Go.RowKit Go.Proofs.Tryz Go.Proofs.YtjmgalpkbkcmkaaGreatDoor.Tryz
open Go renaming undef->VM,wpIn_wide->WV
open Go.Act renaming put->Ua
open Go.IntKind renaming i64->Tl
open Go.Lib renaming hid->Tn
open Go.Obj renaming cells->Tq
open Go.Proofs renaming intOf->VS
open Go.Proofs.Tryz renaming prog->UB
open Go.Value renaming bool->U1,int->Ti,pointer->UK,slice->Tm
open List renaming mem_of_getElem?->Uv
open Nat renaming reduceAdd->VO,zero_le->VF
open Option renaming none->U8,some->Ts
variable {a na pa ra:Option Addr} {ck g j n nc pc rc sx:Nat}
section
attribute [local go_sem↓] fD
attribute [local irreducible] ak aN
def ajV(l:World)(d g j f:Nat)(a:Option Addr)(n c:Nat)(b:Act)(wr:World):Prop:=b.tmps.size=286/\b.defers=[]/\b.tmps.getD 0 VM=Tm a n c/\b.tmps.getD 3 VM=U1 true/\b.tmps.getD 4 VM=UK (Ts ⟨g,0,U8⟩)/\b.tmps.getD 6 VM=UK (Ts ⟨j,0,U8⟩)/\b.tmps.getD 7 VM=Tm (Ts ⟨f,0,U8⟩) 1 1/\b.tmps.getD 9 VM=UK (Ts ⟨d,0,U8⟩)/\b.tmps.getD 12 VM=Ti Tl (n:Int)/\aeE l d n (b.tmps.getD 11 VM) wr
def abC{y ops c S V P r u Q U}(C:aiL y ops a n c ra na S rc V nc P r u g j pa ck Q pc U sx)(f wr)(d:ag4 y g r u j a n c f wr)(q:Exit->Act->World->Prop)(B:∀f b,ajV y g r u j a n c f b->q (.exit 0) f b):
  Code.wp UB uW (Exit.then (fun a2 W=>ag4 y g r u j a n c a2 W/\aa1 n a2<aa1 n f) q) f wr:=by
 obtain⟨A,ds⟩:=f;obtain⟨z,s,L,I,G,F,O,J,k,o,l,d⟩:=d;obtain⟨t,X,rfl⟩:=Nq A z;clear X z;dsimp only at s;subst s;have N:t 0=Tm a n c:=L;have K:t 3=U1 true:=I;have M:t 4=UK (Ts ⟨r,0,U8⟩):=G;have D:t 6=UK (Ts ⟨u,0,U8⟩):=F;have H:t 7=Tm (Ts ⟨j,0,U8⟩) 1 1:=O;have E:t 9=UK (Ts ⟨g,0,U8⟩):=J;have m:t 12=Ti Tl (k:Int):=l;rw[N,K,M,D,H,E,m];clear L I G F O J l N K M D H E m;change aeE y g k (t 11) wr at d;by_cases R:k<n
 .obtain⟨p,x⟩:=ay C.len R;by_cases L:p.kind=0
  .exact afR C x R L t wr d q
  by_cases h1:p.kind=1
  .exact af6 C x R h1 t wr d q
  exact ag2 C x R (by simpa using L) Zbu t wr d q
 obtain rfl:k=n:=by omega
 have hn:=C.n12;have T:=Tn d;clear d C;conv=>arg 2;whnf
 go_wp2_with fail;exact⟨rfl,rfl,rfl,rfl,rfl,rfl,rfl,rfl,rfl,T⟩
def LW(ops:List LM)(a n c w)(hw:xB w)(H:aU w)(p:ops.length=n)(hn:n<=9223372036854775807)(hnc:n<=c)(ho:cr 4 ag9 w a ops):Calls UB 3 #[Tm a n c] w (bM (U1 true) w):=by
 refine PC hw H (Below.refl w.heap.size w) ho p fun ca HKD HEXT HOPS HN=>have kc:=fun(w:World)(C:Array Value)(n c:Nat)=>Lib.run_convert_bytes_const (P:=UB) w 37 5 C n c underlying37 underlying5;?_;clear hw H p ho;refine P1 (ef [jM]) fun tr htr=>have HTR:=Tn htr;?_;clear htr;go_enter func3,ntmps3;go_upto_region 1 with(fail);go_wp2_with fail;refine P2 (MA w ca HKD) fun W1 q=>P5 (ca.ext q) (HKD.ext q) (aa HEXT q) (HOPS.ext q) fun B bs a3 am=>?_;clear ca HKD HEXT HOPS q;go_upto_region 4 with(fail);go_wp2_with fail;refine(ub W1 B).mono ?_;rintro e I⟨ra,rn,rc,na,nn,nc,rfl,hT,q⟩;rw[HTR.out]at hT;refine PC hT (B.ext q) (bs.ext q) (aa a3 q) (am.ext q) fun HTAB a5 b1 ac ah=>?_;clear B bs a3 am hT q;refine nV I (Tq #[Tm ra rn rc,Tm na nn nc] 27) fun GT O HQGT HQW3 R HRGT=>PC (a5.ext R) (b1.ext R) (aa ac R) (ah.ext R) (HTAB.ext R) fun al b6 ba be bl=>?_;clear a5 b1 ac ah HTAB;go_upto_region 5 with(fail);try rw[HQGT.out]
 try erw[HQW3.out]
 go_wp2_with fail;refine P1 O.heap.size fun D6 hD6=>P1 (O.alloc (Tq #[Ti IntKind.u8 115] 5 (1,2))) fun W6 hW6=>have bp:=Tn (show aq O W6 by rw[<-hW6];exact af P0 _);have HBS:Hid (aJ W6 (Tm (Ts ⟨D6,0,U8⟩) 1 1) [115]):=Tn (by rw[<-hW6,<-hD6];exact uB O 115);P4 hD6 hW6 fun HQD6 HQW6=>?_;clear hD6 hW6;try rw[HQD6.out]
 try erw[HQW6.out]
 refine P9 (al.ext bp) (b6.ext bp) (aa ba bp) (be.ext bp) (bl.ext bp) (ai HRGT bp) fun a1 b2 a6 an a8 bb=>?_;clear al b6 ba be bl HRGT;refine(Jc 1 1 _ [115] W6 Pi Pi Pi HBS Pi).mono ?_;rintro e W7⟨pa,pc,gb,rfl,hcw,hsh,U⟩;rw[MV]at hcw⊢;rw[MY]at hsh;refine P4 hcw hsh fun HCW HSH=>P1 iC.parts.length fun cn hcn=>P1 iC.key fun ck hck=>have HCRW:Hid (pB iC pa pc=Value.agg #[Ti Tl 1,Ti Tl 1,ag ck,Tm pa cn pc]):=Tn (by rw[<-hcn,<-hck];rfl);?_;rw[HCRW.out];refine P9 (a1.ext U) (b2.ext U) (aa a6 U) (an.ext U) (a8.ext U) (ai bb U) fun a2 bv ab a7 a9 a4=>?_;clear a1 b2 a6 an a8 bb hcw hsh U hcn hck;refine nV W7 (Tq #[Ti Tl 1,Ti Tl 1,ag ck,Tm pa cn pc] 33) fun GW W8 HQGW HQW8 o HRGW=>P8 (a2.ext o) (bv.ext o) (aa ab o) (a7.ext o) (a9.ext o) (ai a4 o) (HCW.ext o) (HSH.ext o) fun ad bt z ao bc a0 b5 S=>?_;clear a2 bv ab a7 a9 a4 HCW HSH;go_upto_region 6 with(fail);try rw[HQGW.out]
 try erw[HQW8.out]
 by_cases h12:12<n
 .go_wp2_with fail;go_ret;exact⟨rfl,z⟩
 have h12':n<=12:=Ph;clear h12;go_upto_region 8 with(fail);refine P1 kU.id fun si hsi=>P1 kU.x fun sx hsx=>P4 hsi hsx fun HSI HSX=>have hs0:=S.out 0 kU rfl;?_;obtain⟨b0,o0,hb0,y0,y1,_⟩:=hs0;cases hb0;rw[hsi]at y0;rw[hsx]at y1;have b4:=fun W=>Dw kU W CY;rw[hsi,hsx]at b4;have HNEW:=Tn b4;clear b4 hsi hsx;go_wp2_with fail;refine P2 (HNEW W8) fun W9 f=>PJ (ad.ext f) (bt.ext f) (aa z f) (ao.ext f) (bc.ext f) (ai a0 f) (b5.ext f) (S.ext f) (ai HRGW f) fun N T G E J M Y Z D=>?_;clear ad bt z ao bc a0 b5 S HRGW f y0 y1;have BHENV:=N;have BHKD:=T;have BHEXT:=G;have BHOPS:=E;have BHTAB:=J;have BHRGT:=M;have BHCW:=Y;have BHSH:=Z;have BHRGW:=D;refine nV W9 (Tq #[Ti Tl si,ag sx,U1 false,U1 true,zz,zz,zz] 44) fun GS W10 HQGS HQW10 d HRGS=>?_;clear N T G E J M Y Z D;go_upto_region 11 with(fail);try rw[HQGS.out]
 try erw[HQW10.out]
 go_wp2_with fail;have HOI:Hid (aeE W9 GS 0 (zz) W10):=Tn ⟨oy,[],⟨U8,0,zz,zz⟩,ig.start,Nat.le_refl _,d,by rw[show oy=(⟨⟨si,sx⟩,false,true,[],⟨[],[]⟩⟩:dp)from Xe];exact HRGS.out,sD _,.inl ⟨rfl,rfl⟩⟩;refine wp_loop (c:=uW) (ag4 W9 GS GT GW gb a n c) (fun a' _=>aa1 n a') ?atStart ?round
 case atStart=>exact⟨rfl,rfl,rfl,rfl,rfl,rfl,rfl,rfl,0,VF _,rfl,HOI⟩
 intro a' wr hI;refine abC (ops:=ops) ⟨HTR,BHENV,BHKD,BHOPS,BHTAB,BHRGT,BHCW,BHSH,BHRGW,HCRW,HSI,HSX,HQGS,HN,h12',hnc⟩ a' wr hI _ ?_;clear hI;intro⟨A,ds⟩ wr ⟨hsz,hds,L,h3,h4,h6,h7,h9,h12,hI⟩;obtain⟨t,ht,rfl⟩:=Nq A hsz;clear ht hsz;dsimp only at hds;subst hds;have e0:t 0=Tm a n c:=L;have e3:t 3=U1 true:=h3;have e4:t 4=UK (Ts ⟨GT,0,U8⟩):=h4;have e6:t 6=UK (Ts ⟨GW,0,U8⟩):=h6;have e7:t 7=Tm (Ts ⟨gb,0,U8⟩) 1 1:=h7;have e9:t 9=UK (Ts ⟨GS,0,U8⟩):=h9;have e12:t 12=Ti Tl (n:Int):=h12;rw[e0,e3,e4,e6,e7,e9,e12];clear L h3 h4 h6 h7 h9 h12 e0 e3 e4 e6 e7 e9 e12;change aeE W9 GS n (t 11) wr at hI;have HI:=Tn hI;clear hI;obtain⟨s,did,x,hon,bn,f,hgs,hsc,hown⟩:=HI.out;refine P4 hon bn fun HON HDK=>?_;obtain⟨da,dc,u,v⟩:=x;obtain⟨ua,uc,va,vc,X,hv⟩:=hsc.sto.form;dsimp only at X hv hgs;subst X hv;refine P4 f hown fun HXR HOW=>?_;clear hon bn f hgs hsc hown HI;obtain⟨da0,dc0,hkv,hkl,hks⟩:=HOW.out.form;refine P1 did.length fun nd hnd=>have HND:=Tn hnd;?_;rw[hnd]at hkv hkl;refine P3 hkv hkl hks fun HKV HKL HKS=>have hnd2:nd<=100:=QB;?_;clear hkv hkl hks hnd;rw[HKV.out];obtain⟨W40,hW40⟩:∃V,V=wr:=⟨_,rfl⟩;subst hW40;have hsq:=fun(x y:Dn)w=>Ad x.body y.body w;go_wp2_with fail;go_loopw [23] (fun iv wx=>∃j:Nat,j<=nd/\iv=Ti Tl (j:Int)/\aq W40 wx) (fun iv _=>nd-(VS iv).toNat)
 case atStart=>exact⟨0,VF _,rfl,P0⟩
 obtain⟨j,Q,rfl,hEw⟩:=hrel;have HEW:=Tn hEw;clear hEw;obtain⟨W41,hW41⟩:∃V,V=wr:=⟨_,rfl⟩;subst hW41;by_cases hlt2:j<nd
 .obtain⟨di,hdi⟩:=ay HND hlt2;obtain⟨kb,ko,hkb,z0,z1,z2,z3⟩:=(HKS.ext HEW) j di hdi;subst hkb;refine PC z0 z1 z2 z3 (Uv hdi) fun DI0' DI1' DI2' DI3' HMI=>?_;have hjc:j<dc0:=by have:=HKL.out;omega
  clear z0 z1 z2 z3 hdi;go_wp2_with fail;go_loopw [24] (fun kv wx=>∃m:Nat,m<=j/\kv=Ti Tl (m:Int)/\aq W41 wx) (fun kv _=>j-(VS kv).toNat)
  case atStart=>exact⟨0,VF _,rfl,P0⟩
  obtain⟨m,K,rfl,hEv⟩:=hrel;have F:=Tn hEv;clear hEv;by_cases hlt3:m<j
  .obtain⟨dk,bn⟩:=ay HND (show m<nd from Ph);obtain⟨kb2,ko2,hkb,z0,z1,z2,z3⟩:=(HKS.ext (aa HEW F)) m dk bn;cases hkb;refine PJ z0 z1 z2 z3 (ae DI0' F) (ae DI1' F) (ae DI2' F) (ae DI3' F) (fun h=>HON.out.one dk (Uv bn) di HMI h) fun DK0 DK1 DK2 DK3 DI0 DI1 DI2 DI3 HON1=>have hmc:m<dc0:=Ph;have hmd:m<nd:=Ph;?_;clear z0 z1 z2 z3 bn;go_wp2_with fail;by_cases bo:dk.ses=di.ses
   .have hsb:(dk.ses==di.ses)=true:=by simpa using bo
    have hbb:(dk.body==di.body)=true:=by simpa using HON1.out (.inl bo)
    clear bo;refine(WV (n:=0)).1 ?_;refine bQ (r:=U8) Pg Pg (fun _ _=>False) (fun _ _ _ _ h=>h.elim) wr P0 ?_;repeat
     first
     |(refine jD (x:=?_) (fun _=>rfl) (fun vs b l hd=>?_) ?_;rotate_left;(focus(unfold ak;go_simp;first|exact aD P0|(have z0:=ae DK0 l;have z1:=ae DK1 l;have z2:=ae DK2 l;have z3:=ae DK3 l;have y0:=ae DI0 l;have y1:=ae DI1 l;have y2:=ae DI2 l;have y3:=ae DI3 l;go_simp;exact aD P0)));simp only[Ua,P7,VO])
     |(refine o8 (fun _=>rfl) ?_;simp only[Ua,P7,VO])
    refine qF fun vs b g hd=>?_;go_wp2_with fail;go_roundw
    case rel=>exact⟨m+1,Ph,Pt,aa F g⟩
    case measure=>simp[VS];omega
   have hsb:(dk.ses==di.ses)=false:=by simpa using bo
   by_cases b3:dk.ser=di.ser
   .have hrb:(dk.ser==di.ser)=true:=by simpa using b3
    have hbb:(dk.body==di.body)=true:=by simpa using HON1.out (.inr b3)
    clear bo b3;refine(WV (n:=0)).1 ?_;refine bQ (r:=U8) Pg Pg (fun _ _=>False) (fun _ _ _ _ h=>h.elim) wr P0 ?_;repeat
     first
     |(refine jD (x:=?_) (fun _=>rfl) (fun vs b l hd=>?_) ?_;rotate_left;(focus(unfold ak;go_simp;first|exact aD P0|(have z0:=ae DK0 l;have z1:=ae DK1 l;have z2:=ae DK2 l;have z3:=ae DK3 l;have y0:=ae DI0 l;have y1:=ae DI1 l;have y2:=ae DI2 l;have y3:=ae DI3 l;go_simp;exact aD P0)));simp only[Ua,P7,VO])
     |(refine o8 (fun _=>rfl) ?_;simp only[Ua,P7,VO])
    refine qF fun vs b g hd=>?_;go_wp2_with fail;go_roundw
    case rel=>exact⟨m+1,Ph,Pt,aa F g⟩
    case measure=>simp[VS];omega
   have hrb:(dk.ser==di.ser)=false:=by simpa using b3
   clear bo b3;refine(WV (n:=0)).1 ?_;refine bQ (r:=U8) Pg Pg (fun _ _=>False) (fun _ _ _ _ h=>h.elim) wr P0 ?_;repeat
    first
    |(refine jD (x:=?_) (fun _=>rfl) (fun vs b l hd=>?_) ?_;rotate_left;(focus(unfold ak;go_simp;first|exact aD P0|(have z0:=ae DK0 l;have z1:=ae DK1 l;have z2:=ae DK2 l;have z3:=ae DK3 l;have y0:=ae DI0 l;have y1:=ae DI1 l;have y2:=ae DI2 l;have y3:=ae DI3 l;go_simp;exact aD P0)));simp only[Ua,P7,VO])
    |(refine o8 (fun _=>rfl) ?_;simp only[Ua,P7,VO])
   refine qF fun vs b g hd=>?_;go_wp2_with fail;go_roundw
   case rel=>exact⟨m+1,Ph,Pt,aa F g⟩
   case measure=>simp[VS];omega
  obtain rfl:m=j:=by omega
  go_wp2_with fail;go_roundw
  case rel=>exact⟨m+1,Ph,Pt,aa HEW F⟩
  case measure=>simp[VS];omega
 obtain rfl:j=nd:=by omega
 go_wp2_with fail;go_ret;exact⟨rfl,aa BHEXT (aa HXR HEW)⟩
end
end Go.Proofs.YtjmgalpkbkcmkaaGreatDoor

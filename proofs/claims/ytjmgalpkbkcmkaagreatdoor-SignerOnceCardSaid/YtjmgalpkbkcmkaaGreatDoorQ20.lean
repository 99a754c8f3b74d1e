/- Lemmas for SignerOnce. Conditions: in each statement. -/
import Derived.Test.YtjmgalpkbkcmkaaGreatDoorQ11
import Derived.Test.YtjmgalpkbkcmkaaGreatDoorQ12
set_option maxRecDepth 100000
set_option maxHeartbeats 16000000
set_option linter.all false
namespace Go.Proofs.YtjmgalpkbkcmkaaGreatDoor
open Go.RowKit Go.Proofs.Tryz Go.Proofs.YtjmgalpkbkcmkaaGreatDoor.Tryz
open Go renaming wpIn_wide->WV
open Go.Act renaming put->Ua
open Go.IntKind renaming i64->Tl,u64->Tt
open Go.Lib renaming hid->Tn
open Go.Proofs.Tryz renaming prog->UB
open Go.Value renaming agg->UT,bool->U1,int->Ti,slice->Tm,string->UH
open Nat renaming le_refl->UY,reduceAdd->VO
open Option renaming none->U8
variable {GT GW ck cn gb k n nc nn pc q rc rn sx:Nat} {W9:World} {a na pa ra:Option Addr} {si:Int}
section
attribute [local go_sem↓] fD
attribute [local irreducible] ak aN
def agA:kU.x<2^64:=Pj
def af6{ops c tr}(C:aiL W9 ops a n c ra na rn rc nn nc tr GT GW q gb pa ck cn pc si sx){p:LM}(hp:ops[k]?=some p)(R:k<n)(hk1:p.kind=1)(t:Nat->Value)(wr:World)(hI:aeE W9 q k (t 11) wr)(Q0:Exit->Act->World->Prop):
  Code.wp UB uW (Exit.then (fun a' f=>ag4 W9 q GT GW gb a n c a' f/\aa1 n a'<aa1 n (qT GT GW q gb a n c k t)) Q0) (qT GT GW q gb a n c k t) wr:=by
 refine PH C.kd C.ops' C.cw C.sh C.gw C.crw C.id C.x C.gs C.len fun BHKD BHOPS BHCW BHSH BHRGW HCRW HSI HSX HQGS HN=>have h12':=C.n12;have hnc:=C.nc';?_;clear C;have HI:=Tn hI;have o:k<=n:=Nat.le_of_lt R;have hn:n<=9223372036854775807:=Ph;clear hI;unfold qT;let bp:=bodyPost UB f3 (fun _ _=>True)
 conv=>arg 2;whnf
 obtain⟨s,ab,x,hon,hdk,hE9,D,hsc,L⟩:=HI.out;refine P4 hon hdk fun HON HDK=>?_;obtain⟨da,dc,u,v⟩:=x;obtain⟨ua,uc,va,vc,X,hv⟩:=hsc.sto.form;dsimp only at X hv D;subst X hv;refine P5 hE9 D hsc L fun HXR HRS HSC HOW=>?_;clear hon hdk hE9 D hsc L HI;obtain⟨pb,po,hpb,q0,q1,q2,q3⟩:=(BHOPS.ext HXR) k p hp;subst hpb;refine P4 q0 q1 fun Q0 Q1=>have hkc:k<c:=Ph;?_;clear hp;go_upto_if 84 with(fail)
 go_cut [13] (fun v wx=>wx=wr/\∃nm:au,v=UH (aL nm)/\nm.length<=1000)
 case first=>
  exact UD
 case rest=>
  obtain⟨hwc,nm1,rfl,hnm1⟩:=hcut;have hwc':=hwc.symm;subst hwc';clear hwc;go_upto_if 91 with(fail)
  go_cut [13] (fun v wx=>wx=wr/\∃nm:au,v=UH (aL nm)/\nm.length<=1000)
  case first=>
   exact UA
  case rest=>
   obtain⟨hwc,nm,rfl,hnm⟩:=hcut;have hwc':=hwc.symm;subst hwc';have HNM:=Tn hnm;clear hwc hnm hnm1 nm1;go_upto_region 20 with(fail);go_wp2_with fail;refine(mA p.ser nm 9 wr (BHKD.ext HXR) HNM).mono ?_;rintro e ac⟨ba,bn,bc,ka,kc2,b,rfl,hE,hb,hbl,hbs,hky,hk1,hk2⟩;refine P1 (ep p.ser nm 9) fun gd hgd=>PC hgd hb hbl hky (And.intro hk1 hk2) fun HGD HB HBL HKY HKC=>?_;rw[hgd]at hbs;rw[HGD.out];refine PC (Below.refl wr.heap.size wr) (aa HXR hE) (ai HRS hE) (HSC.ext hE) (HOW.ext hE) fun HXX T A M U=>have P:=Tn (aa HXX hE);?_;clear HXR HRS HSC HOW HXX hE hb hbl hbs hky hk1 hk2 hgd;go_upto_region 21 with(fail);refine PX A fun g0 g1 g2 g3 g4 g5 g6=>have RXR:=T;have RRS:=A;have RSC:=M;have ROW:=U;have RB:=HB;have RKY:=HKY;have RXX:=P;nV ac (Obj.cells #[Ti Tl s.share.id,ag s.share.x,U1 s.bad,U1 s.up,Tm da s.done.length dc,Tm ua s.store.safe.length uc,Tm va s.store.opn.length vc] 44) fun H W22 HQGB HQW22 F HRGB=>have HXX_102:=Tn (aa P F);?_;clear T A M U P HB HKY;go_upto_region 22 with(fail);(try rw[HQGB.out]);try erw[HQW22.out]
   clear g0 g1 g2 g3 g4 g5 g6;have q0:=ae Q0 HXX_102;go_upto_block 2 with(fail)
   clear q0;(try rw[hk1]);go_cut [11,18] (fun dv gv wx=>aiY W9 q H k s ⟨da,dc,Tm ua s.store.safe.length uc,Tm va s.store.opn.length vc⟩ dv gv wx)
   case first=>
    have HDL:=Tn HON.out.sz;have hs0:=BHSH.out 0 kU rfl;obtain⟨b0,o0,hb0,y0,y1,_⟩:=hs0;cases hb0;rw[HSI.out]at y0;rw[HSX.out]at y1;simp only[Nat.zero_mul,Nat.add_zero]at y0 y1;refine P4 y0 y1 fun Y0 Y1=>P1 (cE kU p.ses b) fun cq hcq=>P1 (bY kU p.ses) fun kq hkq=>have HCX:Hid (cq.x<2^64):=Tn (by rw[<-hcq];exact FI _ _ _);?_
    have HQC:=Tn (fun W(hE:aq W22 W)=>show Calls UB 11 #[UT #[Ti Tl si,ag sx],Ti Tl p.ses,Tm ba bn bc] W (bM (Value.tuple #[UT #[Ti Tl cq.id,ag cq.x],Ti Tl kq]) W)from by
     have h:=nQ kU p.ses _ b W agA (RB.ext (aa F hE)) Qr;rw[hcq,hkq,show eU kU=UT #[Ti Tl si,ag sx]from Xe]at h
     exact h)
    have EB:=Tn (aa RXR F);clear y0 y1 hcq hkq;go_upto_region 30 with(fail);refine(WV (n:=0)).1 ?_;refine bQ (r:=U8) Pg Pg (fun _ _=>False) (fun _ _ _ _ h=>h.elim) W22 P0 ?_;iterate 12
     first
     |(refine jD (x:=?_) (fun _=>rfl) (fun vs f l J=>?_) ?_;rotate_left;(focus(unfold ak;go_simp;first|exact aD P0|(have q1:=ae Q1 (aa RXX (aa F l));go_simp;exact aD P0)|(have y0:=ae Y0 (aa EB l);have y1:=ae Y1 (aa EB l);go_simp;exact aD P0)|(go_at_call 11;refine(HQC _ l).mono ?_;rintro e w5⟨rfl,N⟩;exact aH N)));simp only[Ua,P7,VO])
    iterate 1
     (refine rE (x:=?_) (fun _=>rfl) (fun vs f J=>?_) ?_;rotate_left;(focus(unfold ak;go_simp;exact aD rfl));simp only[Ua,P7,VO])
    refine nZ (aiD W22) aiD.ext (fun _=>rfl) (fun vs f l J G hG=>?_) ?_
    .unfold ak;go_simp;exact hG _ _ ⟨_,rfl,l.size,World.alloc_heap_new _ _⟩ (af P0 _)
    simp only[Ua,P7,VO];refine oU Pg Pg rfl rfl (fun vs f l J G hG=>?_);obtain⟨gq,hv,hgq,I⟩:=J _ (.head _);dsimp only at hv;have E:=Tn (dt I (Ti Tl cq.id) (ag cq.x));have EX30:=Tn (l.trans (E.2.below l.size (fun i hi=>by have e:i=gq:=hi;omega)));refine PM I fun e0 am=>PO I fun fz0 fz1=>?_;clear I J l;unfold aN;go_simp;refine hG _ _ ?_;unfold aN;go_simp;refine PI f gq (Ti Tl cq.id) (ag cq.x) fun W30 hW30=>?_;rw[hW30]at E EX30;rw[hW30];refine P4 E.out.1 (aa F EX30) fun HRQ EX=>?_;clear hW30 e0 am fz0 fz1 E hgq hv hG G;cases gd with
    |false=>
     exact Tu
    |true=>
     by_cases hkq:kq=0
     rotate_left
     .have hkf:(kq==0)=false:=by simpa using hkq
      clear hkq;exact Tu
     .subst hkq;refine P1 (fk s true (Bb iC s p.ses b [cq])) fun kk hkk=>P1 (jG iC s.share p.ses b [cq]) fun c2 hc2=>P4 hkk (fun W(hE:aq W30 W)a(hs:cr 2 eF W a [cq])=>NL (RSC.ext (aa EX hE)) ⟨HDL.1,HDL.2.1,HDL.2.2⟩ (RB.ext (aa EX hE)) HBL (BHCW.ext (aa RXR (aa EX hE))) (mn:=1) rfl (UY _) Pi Pi hs HCRW hkk hc2) fun HKK HPT=>?_;clear hkk hc2;go_upto_region 32 with(fail);go_cut [18] (fun gv wx=>gv=Ti Tl kk/\ajS ac H s kk wx)
      case first=>
       by_cases hz:kk=0
       .subst hz;refine(WV (n:=0)).1 ?_;refine bQ (r:=U8) Pg Pg (fun _ _=>False) (fun _ _ _ _ h=>h.elim) W30 P0 ?_;iterate 9
         first
         |(refine jD (x:=?_) (fun _=>rfl) (fun vs f l J=>?_) ?_;rotate_left;(focus(unfold ak;go_simp;first|exact aD P0|(have q1:=ae Q1 (aa RXX (aa EX l));go_simp;exact aD P0)|(have I:=ai (ai BHRGW (aa RXR EX)) l;refine PR I fun z0 z1 z2 z3=>?_;go_simp;exact aD P0)|(have I:=ai (ai RRS EX) l;refine PX I fun z0 z1 z2 z3 z4 z5 z6=>?_;go_simp;exact aD P0)|(have I:=ai HRQ l;refine PM I fun z0 z1=>?_;go_simp;exact aD P0)));simp only[Ua,P7,VO])
        refine nZ (agW cq) agW.ext (fun _=>rfl) (fun vs f l J G hG=>?_) ?_
        .exact Zck
        simp only[Ua,P7,VO];refine nZ (G7 s c2) G7.ext (fun _=>rfl) (fun vs f l J G hG=>?_) ?_
        .obtain⟨g,S,hs⟩:=J _ (.head _) Pg;dsimp only at S;unfold ak;go_simp;go_at_call 12;refine(HPT _ l _ hs).mono ?_;rintro e w5⟨N,_,hyes⟩;obtain⟨v5,he,hC⟩:=G7.of (hyes rfl);subst he;exact⟨v5,rfl,hG _ _ hC N⟩
        simp only[Ua,P7,VO];refine nZ (G7 s c2) G7.ext (fun _=>rfl) (fun vs f l J G hG=>?_) ?_
        .unfold ak;go_simp;exact hG _ _ (J _ (.head _) Pg) P0
        simp only[Ua,P7,VO];refine nZ (ab8 s) ab8.ext (fun _=>rfl) (fun vs f l J G hG=>?_) ?_
        .obtain⟨u5,X,hv⟩:=J _ (.head _) Pg;dsimp only at hv;unfold ak;go_simp;exact hG _ _ X P0
        simp only[Ua,P7,VO];iterate 2
         (refine rE (x:=?_) (fun _=>rfl) (fun vs f J=>?_) ?_;rotate_left;(focus(obtain⟨w0,u5,X,hv⟩:=J _ (.tail _ (.head _)) Pg;dsimp only at hv;unfold ak;go_simp;exact aD rfl));simp only[Ua,P7,VO])
        refine oU Pg Pg rfl rfl (fun vs f l J G hG=>?_);obtain⟨da2,dc2,ua2,uc2,va2,vc2,hv,hC⟩:=J _ (.head _);dsimp only at hv;refine P3 hC (aa EX l) (ai HRGB (aa EX30 l)) fun HSC2 HX5 B=>?_;clear hC J;have E:=Tn (cu B (Ti Tl s.share.id) (ag s.share.x) (U1 s.bad) (U1 s.up) (Tm da2 s.done.length dc2) (Tm ua2 s.store.safe.length uc2) (Tm va2 s.store.opn.length vc2));have EX:=Tn (HX5.trans (E.2.below HX5.size (fun i hi=>XZ)));refine PX B fun z0 z1 z2 z3 z4 z5 z6=>PY B fun fz0 fz1 fz2 fz3 fz4 fz5 fz6=>?_;unfold aN;go_simp;refine hG _ _ ?_;unfold aN;go_simp;go_wp2_with fail;go_meet
        exact⟨rfl,EX,fun _=>⟨⟨da2,dc2,_,_⟩,HSC2.off E.2 (ej B),E.1⟩⟩
       .have HZ:=Tn hz;clear hz;refine(WV (n:=0)).1 ?_;refine bQ (r:=U8) Pg Pg (fun _ _=>False) (fun _ _ _ _ h=>h.elim) W30 P0 ?_;iterate 9
         first
         |(refine jD (x:=?_) (fun _=>rfl) (fun vs f l J=>?_) ?_;rotate_left;(focus(unfold ak;go_simp;first|exact aD P0|(have q1:=ae Q1 (aa RXX (aa EX l));go_simp;exact aD P0)|(have I:=ai (ai BHRGW (aa RXR EX)) l;refine PR I fun z0 z1 z2 z3=>?_;go_simp;exact aD P0)|(have I:=ai (ai RRS EX) l;refine PX I fun z0 z1 z2 z3 z4 z5 z6=>?_;go_simp;exact aD P0)|(have I:=ai HRQ l;refine PM I fun z0 z1=>?_;go_simp;exact aD P0)));simp only[Ua,P7,VO])
        refine nZ (agW cq) agW.ext (fun _=>rfl) (fun vs f l J G hG=>?_) ?_
        .exact Zck
        simp only[Ua,P7,VO];iterate 3
         first
         |(refine jD (x:=?_) (fun _=>rfl) (fun vs f l J=>?_) ?_;rotate_left;(focus(unfold ak;go_simp;first|exact aD P0|(go_at_call 12;obtain⟨g,S,hs⟩:=J _ (.head _) Pg;dsimp only at S;rw[S];refine(HPT _ l _ hs).mono ?_;rintro e w5⟨N,hno,_⟩;have he:=hno HZ;subst he;exact aH N)));simp only[Ua,P7,VO])
        iterate 2
         (refine rE (x:=?_) (fun _=>rfl) (fun vs f J=>?_) ?_;rotate_left;(focus(unfold ak;go_simp;exact aD rfl));simp only[Ua,P7,VO])
        refine oU Pg Pg rfl rfl (fun vs f l J G hG=>?_);refine P4 (aa EX l) (ai HRGB (aa EX30 l)) fun HX5 B=>have E:=Tn (cu B (Ti Tl 0) (Ti Tt 0) (U1 false) (U1 false) (zz) (zz) (zz));have EX:=Tn (HX5.trans (E.2.below HX5.size (fun i hi=>XZ)));PX B fun z0 z1 z2 z3 z4 z5 z6=>PY B fun fz0 fz1 fz2 fz3 fz4 fz5 fz6=>?_;unfold aN;go_simp;refine hG _ _ ?_;unfold aN;go_simp;go_wp2_with fail;go_meet
        exact⟨rfl,EX,fun h=>absurd h HZ⟩
      case rest=>
       obtain⟨rfl,hEP,hPT⟩:=hcut;refine P4 hEP hPT fun HEP HPQ=>?_;clear hEP hPT;obtain⟨ka,kc3,hkv,hkl,hks⟩:=(ROW.ext HEP).form;refine P1 ab.length fun nd hnd=>have HND:=Tn hnd;?_;rw[hnd]at hkv hkl;refine P3 hkv hkl hks fun HKV HKL HKS=>have hnd2:nd<=100:=QB;?_;clear hkv hkl hks hnd;rw[HKV.out];have hsq:=fun(d:Dn)w=>Av d.body (bF b) w;go_wp2_with fail;go_loopw [21,22] (fun kv iv wx=>∃j:Nat,j<=nd/\iv=Ti Tl (j:Int)/\kv=U1 ((ab.take j).any fun y=>y.ses==p.ses&&y.body==bF b)/\aq wc wx) (fun _ iv _=>nd-(intOf iv).toNat)
       case atStart=>exact⟨0,Nat.zero_le _,rfl,rfl,P0⟩
       case round=>
        obtain⟨j,Q,rfl,rfl,hEw⟩:=hrel;have K:=Tn hEw;clear hEw;obtain⟨kw,hkw⟩:∃z,((ab.take j).any fun y=>y.ses==p.ses&&y.body==bF b)=z:=⟨_,rfl⟩;have HKW:=Tn hkw;rw[hkw];clear hkw;by_cases R:j<nd
        .as_aux_lemma=>
          obtain⟨dj,hdj⟩:=ay HND R;obtain⟨kb,ko,hkb,z0,z1,z2,z3⟩:=(HKS.ext K) j dj hdj;subst hkb;refine P5 z0 z2 z3 (aW hdj) fun HZ0 HZ2 HZ3 HTK=>?_;have hjc:j<kc3:=by have:=HKL.out;omega
          clear z0 z1 z2 z3 hdj;go_upto_region 37 with(fail);cases kw with
          |true=>
           refine(WV (n:=0)).1 ?_;refine bQ (r:=U8) Pg Pg (fun _ _=>False) (fun _ _ _ _ h=>h.elim) wr P0 ?_;repeat
            first
            |(refine jD (x:=?_) (fun _=>rfl) (fun vs f l J=>?_) ?_;rotate_left;(focus(unfold ak;go_simp;first|exact aD P0|(have z0:=ae HZ0 l;have z2:=ae HZ2 l;have z3:=ae HZ3 l;go_simp;exact aD P0)|(have q1:=ae Q1 (aa RXX (aa HEP (aa K l)));go_simp;exact aD P0)|(go_at_call 10;refine(fF _ _ f (RB.ext (aa HEP (aa K l))) Qr).mono ?_;rintro e w5⟨rfl,N⟩;exact aH N)));simp only[Ua,P7,VO])
            |(refine o8 (fun _=>rfl) ?_;simp only[Ua,P7,VO])
           refine qF fun vs f hE J=>?_;go_wp2_with fail;go_roundw
           case rel=>exact⟨j+1,Ph,Pt,by rw[HTK.out,List.any_append,HKW.out];simp,aa K hE⟩
           case measure=>simp[intOf];omega
          |false=>
           by_cases hse:dj.ses=p.ses
           .have hsb:(dj.ses==p.ses)=true:=by simpa using hse
            refine(WV (n:=0)).1 ?_;refine bQ (r:=U8) Pg Pg (fun _ _=>False) (fun _ _ _ _ h=>h.elim) wr P0 ?_;repeat
             first
             |(refine jD (x:=?_) (fun _=>rfl) (fun vs f l J=>?_) ?_;rotate_left;(focus(unfold ak;go_simp;first|exact aD P0|(have z0:=ae HZ0 l;have z2:=ae HZ2 l;have z3:=ae HZ3 l;go_simp;exact aD P0)|(have q1:=ae Q1 (aa RXX (aa HEP (aa K l)));go_simp;exact aD P0)|(go_at_call 10;refine(fF _ _ f (RB.ext (aa HEP (aa K l))) Qr).mono ?_;rintro e w5⟨rfl,N⟩;exact aH N)));simp only[Ua,P7,VO])
             |(refine o8 (fun _=>rfl) ?_;simp only[Ua,P7,VO])
            refine qF fun vs f hE J=>?_;go_wp2_with fail;go_roundw
            case rel=>exact⟨j+1,Ph,Pt,Sh,aa K hE⟩
            case measure=>simp[intOf];omega
           .have hsb:(dj.ses==p.ses)=false:=by simpa using hse
            refine(WV (n:=0)).1 ?_;refine bQ (r:=U8) Pg Pg (fun _ _=>False) (fun _ _ _ _ h=>h.elim) wr P0 ?_;repeat
             first
             |(refine jD (x:=?_) (fun _=>rfl) (fun vs f l J=>?_) ?_;rotate_left;(focus(unfold ak;go_simp;first|exact aD P0|(have z0:=ae HZ0 l;have z2:=ae HZ2 l;have z3:=ae HZ3 l;go_simp;exact aD P0)|(have q1:=ae Q1 (aa RXX (aa HEP (aa K l)));go_simp;exact aD P0)|(go_at_call 10;refine(fF _ _ f (RB.ext (aa HEP (aa K l))) Qr).mono ?_;rintro e w5⟨rfl,N⟩;exact aH N)));simp only[Ua,P7,VO])
             |(refine o8 (fun _=>rfl) ?_;simp only[Ua,P7,VO])
            refine qF fun vs f hE J=>?_;go_wp2_with fail;go_roundw
            case rel=>exact⟨j+1,Ph,Pt,Sh,aa K hE⟩
            case measure=>simp[intOf];omega
        .as_aux_lemma=>
          obtain rfl:j=nd:=by omega
          have HAN:Hid (kw=ab.any fun y=>y.ses==p.ses&&y.body==bF b):=Tn (by rw[<-HKW.out,List.take_of_length_le (by rw[HND.out];exact UY _)]);have EZ:=Tn (aa HEP K);have HKO:Hid (AZ q wr (Tm ka j kc3) ab):=Tn (by rw[<-HKV.out];exact ROW.out.ext EZ);by_cases hz:kk=0
          .subst hz;have hkt:kw=true:=by rw[HAN.out];exact ab2 HON HKK
           subst hkt;obtain⟨x2,hx2,hr2⟩:=HPQ.out rfl;refine P4 hx2 hr2 fun HX2 HR2=>?_;clear hx2 hr2;go_wp2_with fail;go_meet
           exact⟨0,ab,rfl,QB,aa RXR EZ,ai RRS EZ,RSC.ext EZ,HKO,fun h=>absurd rfl h,fun _=>⟨s,x2,HON,HX2.ext K,ai HR2 K⟩⟩
          .have hkz:(kk==0)=false:=by simpa using hz
           have HZ:=Tn hz;clear hz;go_wp2_with fail;go_meet
           exact⟨kk,ab,rfl,QB,aa RXR EZ,ai RRS EZ,RSC.ext EZ,HKO,fun _=>HON.out,fun h=>absurd h HZ⟩
   case rest=>
    obtain⟨g,did2,rfl,hl2,hE9,D,hsc,L,zs,heq⟩:=hcut;dsimp only at D;by_cases S:g=0
    .subst S;obtain⟨Y,⟨da2,dc2,u2,v2⟩,hon2,hsc2,ad⟩:=heq rfl;obtain⟨ua2,uc2,va2,vc2,X,hv⟩:=hsc2.sto.form;dsimp only at X hv ad;subst X hv;refine PC hon2.check hon2.sz.2.1 hon2 hl2 (cu D (Ti Tl Y.share.id) (ag Y.share.x) (U1 Y.bad) (U1 Y.up) (Tm da2 Y.done.length dc2) (Tm ua2 Y.store.safe.length uc2) (Tm va2 Y.store.opn.length vc2)) fun CHK CDL CN2 CL2 E=>PX ad fun e0 am e2 e3 e4 e5 e6=>PX D fun z0 z1 z2 z3 z4 z5 z6=>PY D fun fz0 fz1 fz2 fz3 fz4 fz5 fz6=>P5 hE9 hsc2 D L fun CE9 CSC CGS COW=>?_;clear ad hE9 hsc hsc2 D L zs heq hon2 hl2;go_upto_region 46 with(fail);refine Pc wc q (Ti Tl Y.share.id) (ag Y.share.x) (U1 Y.bad) (U1 Y.up) (Tm da2 Y.done.length dc2) (Tm ua2 Y.store.safe.length uc2) (Tm va2 Y.store.opn.length vc2) fun V2 hV2=>?_;rw[hV2]at E;(try rw[show(Ti Tt (Y.share.x:Int))=ag Y.share.x from rfl]);rw[hV2];clear hV2 e0 am e2 e3 e4 e5 e6 z0 z1 z2 z3 z4 z5 z6 fz0 fz1 fz2 fz3 fz4 fz5 fz6;refine P3 (CE9.trans (E.2.below CE9.size (fun i hi=>by have:=HQGS.out;have e:i=q:=hi;omega))) (CSC.off E.2 (ej CGS)) (COW.fr E.2 (fun g e=>by have e':g=q:=e;omega)) fun CE2 CS2 CO2=>PX E.1 fun q0 q1 q2 q3 q4 q5 q6=>have hck:=eo Y ⟨da2,dc2,Tm ua2 Y.store.safe.length uc2,Tm va2 Y.store.opn.length vc2⟩ V2 CS2 RK;?_;rw[CHK.out]at hck;have HCK:=Tn hck;clear hck;go_wp2_with fail;refine P2 HCK fun O Z=>?_;go_wp2_with fail;refine⟨⟨rfl,rfl,rfl,rfl,rfl,rfl,rfl,rfl,k+1,Ph,Pt,Y,did2,⟨da2,dc2,Tm ua2 Y.store.safe.length uc2,Tm va2 Y.store.opn.length vc2⟩,CN2,CL2,aa CE2 Z,ai E.1 Z,CS2.ext Z,CO2.ext Z⟩,?_⟩;exact UF
    .refine PX D fun q0 q1 q2 q3 q4 q5 q6=>P4 (zs S) hl2 fun CN2 CL2=>P9 CN2.out.check CN2.out.sz.2.1 hE9 hsc D L fun CHK CDL CE9 CSC CGS COW=>have hck:=eo s ⟨da,dc,Tm ua s.store.safe.length uc,Tm va s.store.opn.length vc⟩ wc hsc RK;?_;rw[CHK.out]at hck;have HCK:=Tn hck;clear hE9 hsc D L zs heq hl2 hck;have hgf:(g==0)=false:=by simpa using S
     clear S;go_upto_region 46 with(fail);go_wp2_with fail;refine P2 HCK fun O Z=>?_;go_wp2_with fail;refine⟨⟨rfl,rfl,rfl,rfl,rfl,rfl,rfl,rfl,k+1,Ph,Pt,s,did2,⟨da,dc,Tm ua s.store.safe.length uc,Tm va s.store.opn.length vc⟩,CN2,CL2,aa CE9 Z,ai CGS Z,CSC.ext Z,COW.ext Z⟩,?_⟩;exact UF
end
end Go.Proofs.YtjmgalpkbkcmkaaGreatDoor

/- Lemmas for SignerOnce. Conditions: in each statement. -/
import Derived.Test.YtjmgalpkbkcmkaaGreatDoorQ11
set_option maxRecDepth 100000
set_option maxHeartbeats 16000000
set_option linter.all false
namespace Go.Proofs.YtjmgalpkbkcmkaaGreatDoor
open Go.RowKit Go.Proofs.Tryz Go.Proofs.YtjmgalpkbkcmkaaGreatDoor.Tryz
open And renaming intro->Xy
open Go renaming cell_of_row->Uc,wpIn_wide->WV
open Go.Act renaming put->Ua
open Go.IntKind renaming i64->Tl,u64->Tt
open Go.Lib renaming hid->Tn
open Go.Obj renaming cells->Tq
open Go.Proofs.Tryz renaming prog->UB
open Go.Value renaming bool->U1,int->Ti,slice->Tm,string->UH
open Nat renaming le_of_lt->Yn,reduceAdd->VO
variable {GT GW ck cn gb k n nc nn pc rc rn sx y:Nat} {W9:World} {a na pa ra:Option Addr} {si:Int}
section
attribute [local go_sem↓] fD
attribute [local irreducible] ak aN
def afR{ops c tr f}(C:aiL W9 ops a n c ra na rn rc nn nc tr GT GW f gb pa ck cn pc si sx){p:LM}(hp:ops[k]?=some p)(R:k<n)(hk0:p.kind=0)(t:Nat->Value)(wr:World)(hI:aeE W9 f k (t 11) wr)(Q0:Exit->Act->World->Prop):
  Code.wp UB uW (Exit.then (fun a' z=>ag4 W9 f GT GW gb a n c a' z/\aa1 n a'<aa1 n (qT GT GW f gb a n c k t)) Q0) (qT GT GW f gb a n c k t) wr:=by
 refine P8 C.tr' C.env C.kd C.ops' C.tab C.gt C.gs C.len fun HTR BHENV BHKD BHOPS BHTAB BHRGT HQGS HN=>have h12':=C.n12;have hnc:=C.nc';?_;clear C;have HI:=Tn hI;have o:k<=n:=Yn R;have hn:n<=9223372036854775807:=Ph;clear hI;unfold qT;let bp:=bodyPost UB f3 (fun _ _=>True)
 conv=>arg 2;whnf
 obtain⟨s,did,x,hon,hdk,al,B,P,I⟩:=HI.out;refine P4 hon hdk fun HON HDK=>?_;obtain⟨da,dc,u,v⟩:=x;obtain⟨ua,uc,va,vc,X,hv⟩:=P.sto.form;dsimp only at X hv B;subst X hv;refine P5 al B P I fun HXR HRS HSC HOW=>?_;clear hon hdk al B P I HI;obtain⟨pb,po,hpb,q0,q1,q2,q3⟩:=(BHOPS.ext HXR) k p hp;subst hpb;refine P3 q0 q1 q2 fun Q0 Q1 Q2=>have hkc:k<c:=Ph;?_;clear hp;go_upto_if 84 with(fail)
 go_cut [13] (fun v wx=>wx=wr/\∃nm:au,v=UH (aL nm)/\nm.length<=1000)
 case first=>
  exact UD
 obtain⟨hwc,nm1,rfl,hnm1⟩:=hcut;have hwc':=hwc.symm;subst hwc';clear hwc;go_upto_if 91 with(fail)
 go_cut [13] (fun v wx=>wx=wr/\∃nm:au,v=UH (aL nm)/\nm.length<=1000)
 case first=>
  exact UA
 obtain⟨hwc,nm,rfl,hnm⟩:=hcut;have hwc':=hwc.symm;subst hwc';have HNM:=Tn hnm;clear hwc hnm hnm1 nm1;go_upto_region 20 with(fail);go_wp2_with fail;refine(mA p.ser nm 9 wr (BHKD.ext HXR) HNM).mono ?_;rintro e Q⟨ba,bn,bc,ka,kc2,b,rfl,hE,hb,hbl,hbs,hky,hk1,hk2⟩;refine P1 (ep p.ser nm 9) fun gd hgd=>PC hgd hb hbl hky (Xy hk1 hk2) fun HGD HB HBL HKY HKC=>?_;rw[hgd]at hbs;have HBS':=Tn hbs;rw[HGD.out];refine PC (Below.refl wr.heap.size wr) (aa HXR hE) (ai HRS hE) (HSC.ext hE) (HOW.ext hE) fun HXX L m J M=>have K:=Tn (aa HXX hE);?_;clear HXR HRS HSC HOW HXX hE hb hbl hbs hky hk1 hk2 hgd;go_upto_region 21 with(fail);refine PX m fun g0 g1 g2 g3 g4 g5 g6=>have RXR:=L;have RRS:=m;have RSC:=J;have ROW:=M;have RB:=HB;have RKY:=HKY;have RXX:=K;nV Q (Tq #[Ti Tl s.share.id,ag s.share.x,U1 s.bad,U1 s.up,Tm da s.done.length dc,Tm ua s.store.safe.length uc,Tm va s.store.opn.length vc] 44) fun D W22 a0 HQW22 A HRGB=>P9 (aa L A) (ai m A) (J.ext A) (aa K A) (HB.ext A) (HKY.ext A) fun F U HSC_102 HXX_102 HB_102 HKY_102=>?_;clear L m J M K HB HKY;go_upto_region 22 with(fail);(try rw[a0.out]);try erw[HQW22.out]
 clear g0 g1 g2 g3 g4 g5 g6;have q0:=ae Q0 HXX_102;go_upto_block 2 with(fail)
 clear q0;(try rw[hk0]);go_cut [11,18] (fun dv gv wx=>aiY W9 f D k s ⟨da,dc,Tm ua s.store.safe.length uc,Tm va s.store.opn.length vc⟩ dv gv wx)
 case first=>
  have HDL:=Tn HON.out.sz;cases gd with
  |false=>
   go_wp2_with fail;refine⟨⟨rfl,rfl,rfl,rfl,rfl,rfl,rfl,rfl,k+1,Ph,Pt,s,did,⟨da,dc,Tm ua s.store.safe.length uc,Tm va s.store.opn.length vc⟩,HON,QB,aa RXR A,ai RRS A,RSC.ext A,ROW.ext A⟩,?_⟩;exact UF
  |true=>
   have HBB:=Tn (HBS' rfl);refine P1 (ow nF iw b) fun me hme=>P1 (bA s p.ses me ⟨p.ses,p.ser,bF b⟩) fun kk hkk=>P1 (bN s ⟨p.ses,p.ser,bF b⟩) fun E hs2=>P1 (cE s.share p.ses b) fun c2 hc2=>P3 hkk hs2 (fun W(hE:aq W22 W)=>mD HTR (BHTAB.ext (aa F hE)) (BHENV.ext (aa F hE)) (BHKD.ext (aa F hE)) (HB_102.ext hE) HBL rfl Pi HKC.1 HKC.2 (HKY_102.ext hE) (fun _ h=>h) (HSC_102.ext hE) ⟨HDL.1,HDL.2.1,HDL.2.2⟩ hme (by rw[HBB.out];exact afF HGD) hkk hs2 hc2) fun HKK HS2 HCO=>?_;clear hme hkk hs2 hc2;go_upto_region 26 with(fail);by_cases hz:kk=0
   .subst hz;refine(WV (n:=0)).1 ?_;refine bQ (r:=none) Pg Pg (fun _ _=>False) (fun _ _ _ _ h=>h.elim) W22 P0 ?_;iterate 9
     first
     |(refine jD (x:=?_) (fun _=>rfl) (fun vs z l y=>?_) ?_;rotate_left;(focus(unfold ak;go_simp;first|exact aD P0|(have q1:=ae Q1 (aa RXX (aa A l));go_simp;exact aD P0)|(have H:=ai U l;refine PX H fun z0 z1 z2 z3 z4 z5 z6=>?_;go_simp;exact aD P0)|(have H:=ai (ai BHRGT F) l;refine PM H fun z0 z1=>?_;go_simp;exact aD P0)));simp only[Ua,P7,VO])
    refine nZ (G7 E c2) G7.ext (fun _=>rfl) (fun vs z l y G hG=>?_) ?_
    .unfold ak;go_simp;go_at_call 9;refine(HCO _ l).mono ?_;rintro e w5⟨hE5,_,hyes⟩;obtain⟨v5,he,hC⟩:=G7.of (hyes rfl);subst he;exact⟨v5,rfl,hG _ _ hC hE5⟩
    simp only[Ua,P7,VO];refine nZ (G7 E c2) G7.ext (fun _=>rfl) (fun vs z l y G hG=>?_) ?_
    .unfold ak;go_simp;exact hG _ _ (y _ (.head _) Pg) P0
    simp only[Ua,P7,VO];refine nZ (ab8 E) ab8.ext (fun _=>rfl) (fun vs z l y G hG=>?_) ?_
    .obtain⟨u5,X,hv⟩:=y _ (.head _) Pg;dsimp only at hv;unfold ak;go_simp;exact hG _ _ X P0
    simp only[Ua,P7,VO];iterate 2
     (refine rE (x:=?_) (fun _=>rfl) (fun vs z y=>?_) ?_;rotate_left;(focus(obtain⟨w0,u5,X,hv⟩:=y _ (.tail _ (.head _)) Pg;dsimp only at hv;unfold ak;go_simp;exact aD rfl));simp only[Ua,P7,VO])
    refine oU Pg Pg rfl rfl (fun vs z l y G hG=>?_);obtain⟨T,Y,an,Z,ad,ab,hv,hC⟩:=y _ (.head _);dsimp only at hv;refine P3 hC (aa A l) (ai HRGB l) fun HSC2 HX5 q=>?_;clear hC y;have j:=Tn (cu q (Ti Tl E.share.id) (ag E.share.x) (U1 E.bad) (U1 E.up) (Tm T E.done.length Y) (Tm an E.store.safe.length Z) (Tm ad E.store.opn.length ab));have EX:=Tn (HX5.trans (j.2.below HX5.size (fun i hi=>Zft)));refine PX q fun z0 z1 z2 z3 z4 z5 z6=>PY q fun fz0 fz1 fz2 fz3 fz4 fz5 fz6=>?_;unfold aN;go_simp;refine hG _ _ ?_;unfold aN;go_simp;go_wp2_with fail;refine Pc z D (Ti Tl E.share.id) (ag E.share.x) (U1 E.bad) (U1 E.up) (Tm T E.done.length Y) (Tm an E.store.safe.length Z) (Tm ad E.store.opn.length ab) fun V2 ac=>?_;rw[ac]at j EX;rw[ac];have C2:=Tn (HSC2.off j.2 (ej q));obtain⟨d,hd2⟩:∃d:Dn,d=⟨p.ses,p.ser,bF b⟩:=⟨_,rfl⟩;have HDD:=Tn hd2;clear ac z0 z1 z2 z3 z4 z5 z6 fz0 fz1 fz2 fz3 fz4 fz5 fz6 hv HX5 l hG G hd2;refine(WV (n:=0)).1 ?_;refine bQ (r:=none) Pg Pg (fun _ _=>False) (fun _ _ _ _ h=>h.elim) V2 P0 ?_;iterate 14
     first
     |(refine jD (x:=?_) (fun _=>rfl) (fun vs z l y=>?_) ?_;rotate_left;(focus(unfold ak;go_simp;first|exact aD P0|(have q1:=ae Q1 (aa RXX (aa EX l));go_simp;exact aD P0)|(have q1:=ae Q2 (aa RXX (aa EX l));go_simp;exact aD P0)|(go_at_call 10;refine(fF _ _ z (RB.ext (aa EX l)) Qr).mono ?_;rintro e w5⟨rfl,hE5⟩;exact aH hE5)));simp only[Ua,P7,VO])
    refine nZ (ah1 ⟨p.ses,p.ser,bF b⟩) ah1.ext (fun _=>rfl) (fun vs z l y G hG=>?_) ?_
    .unfold ak;go_simp;exact hG _ _ ⟨_,rfl,World.alloc_heap_new _ _⟩ (af P0 _)
    simp only[Ua,P7,VO];refine oU Pg Pg rfl rfl (fun vs z l y G hG=>?_);obtain⟨g1,hv,H⟩:=y _ (.head _);dsimp only at hv;refine P4 (ROW.ext (aa EX l)) (aa EX l) fun HK1 HXS=>?_;obtain⟨v9,w9,hrun,hK9,hF9⟩:=Oi did ⟨p.ses,p.ser,bF b⟩ (t 11) g1 z QB HK1 (by have:=HQGS.out;have:=(aa RXR HXS).size;have:=(Array.getElem?_eq_some_iff.1 RRS).1;have:=HXS.out.size;omega) (Uc _ _ 0 _ _ _ H) (Uc _ _ 1 _ _ _ H) (Uc _ _ 2 _ _ _ H) (Uc _ _ 3 _ _ _ H);refine P3 hK9 hF9 l fun HK9 HF9 HS=>?_;clear y H hK9 hF9 l;unfold aN;go_simp;refine hG _ _ ?_;unfold aN;go_simp;go_wp2_with fail;go_meet
    exact⟨0,did++[⟨p.ses,p.ser,bF b⟩],rfl,by have:=HDK.out;simp only[List.length_append,List.length_singleton];omega,HK1.below HF9 (aa RXR HXS) (by have:=HQGS.out;omega),aM (ai RRS HXS) HF9 (fun e=>by have:=(HK1.own f e).1;omega),(RSC.ext HXS).kp HK1 HF9,HK9.out,fun h=>absurd rfl h,fun _=>⟨E,⟨T,Y,_,_⟩,by
     have h1:=HKK.out
     rw[HBB.out]at h1
     have h2:=HON.out.com HGD h1
     rw[<-HBB.out]at h2
     rw[<-HS2.out]
     exact h2,(C2.ext HS).kp HK1 HF9,aM (ai j.1 HS) HF9 (fun e=>by have:=(ROW.own D e).2;have:=a0.out;omega)⟩⟩
   have HZ:=Tn hz;clear hz;refine(WV (n:=0)).1 ?_;refine bQ (r:=none) Pg Pg (fun _ _=>False) (fun _ _ _ _ h=>h.elim) W22 P0 ?_;iterate 9
    first
    |(refine jD (x:=?_) (fun _=>rfl) (fun vs z l y=>?_) ?_;rotate_left;(focus(unfold ak;go_simp;first|exact aD P0|(have q1:=ae Q1 (aa RXX (aa A l));go_simp;exact aD P0)|(have H:=ai U l;refine PX H fun z0 z1 z2 z3 z4 z5 z6=>?_;go_simp;exact aD P0)|(have H:=ai (ai BHRGT F) l;refine PM H fun z0 z1=>?_;go_simp;exact aD P0)));simp only[Ua,P7,VO])
   iterate 3
    first
    |(refine jD (x:=?_) (fun _=>rfl) (fun vs z l y=>?_) ?_;rotate_left;(focus(unfold ak;go_simp;first|exact aD P0|(go_at_call 9;refine(HCO _ l).mono ?_;rintro e w5⟨hE5,hno,_⟩;have he:=hno HZ;subst he;exact aH hE5)));simp only[Ua,P7,VO])
   iterate 2
    (refine rE (x:=?_) (fun _=>rfl) (fun vs z y=>?_) ?_;rotate_left;(focus(unfold ak;go_simp;exact aD rfl));simp only[Ua,P7,VO])
   refine oU Pg Pg rfl rfl (fun vs z l y G hG=>?_);refine P4 (aa A l) (ai HRGB l) fun HX5 q=>have j:=Tn (cu q (Ti Tl 0) (Ti Tt 0) (U1 false) (U1 false) (zz) (zz) (zz));have EX:=Tn (HX5.trans (j.2.below HX5.size (fun i hi=>Zft)));PX q fun z0 z1 z2 z3 z4 z5 z6=>PY q fun fz0 fz1 fz2 fz3 fz4 fz5 fz6=>?_;unfold aN;go_simp;refine hG _ _ ?_;unfold aN;go_simp;have hkz:(kk==0)=false:=by simpa using HZ.out
   go_wp2_with fail;go_meet
   exact⟨kk,did,rfl,QB,aa RXR EX,ai RRS EX,RSC.ext EX,ROW.ext EX,fun _=>HON.out,fun h=>absurd h HZ⟩
 obtain⟨g,did2,rfl,hl2,al,B,P,I,zs,heq⟩:=hcut;dsimp only at B;by_cases S:g=0
 .subst S;obtain⟨E,⟨T,Y,u2,v2⟩,ao,hsc2,N⟩:=heq rfl;obtain⟨an,Z,ad,ab,X,hv⟩:=hsc2.sto.form;dsimp only at X hv N;subst X hv;refine PC ao.check ao.sz.2.1 ao hl2 (cu B (Ti Tl E.share.id) (ag E.share.x) (U1 E.bad) (U1 E.up) (Tm T E.done.length Y) (Tm an E.store.safe.length Z) (Tm ad E.store.opn.length ab)) fun CHK CDL CN2 CL2 j=>PX N fun e0 am e2 e3 e4 e5 e6=>PX B fun z0 z1 z2 z3 z4 z5 z6=>PY B fun fz0 fz1 fz2 fz3 fz4 fz5 fz6=>P5 al hsc2 B I fun CE9 CSC CGS COW=>?_;clear N al P hsc2 B I zs heq ao hl2;go_upto_region 46 with(fail);refine Pc wc f (Ti Tl E.share.id) (ag E.share.x) (U1 E.bad) (U1 E.up) (Tm T E.done.length Y) (Tm an E.store.safe.length Z) (Tm ad E.store.opn.length ab) fun V2 ac=>?_;rw[ac]at j;(try rw[show(Ti Tt (E.share.x:Int))=ag E.share.x from rfl]);rw[ac];clear ac e0 am e2 e3 e4 e5 e6 z0 z1 z2 z3 z4 z5 z6 fz0 fz1 fz2 fz3 fz4 fz5 fz6;refine P3 (CE9.trans (j.2.below CE9.size (fun i hi=>by have:=HQGS.out;have e:i=f:=hi;omega))) (CSC.off j.2 (ej CGS)) (COW.fr j.2 (fun g e=>by have e':g=f:=e;omega)) fun CE2 CS2 CO2=>PX j.1 fun q0 q1 q2 q3 q4 q5 q6=>have ah:=eo E ⟨T,Y,Tm an E.store.safe.length Z,Tm ad E.store.opn.length ab⟩ V2 CS2 RK;?_;rw[CHK.out]at ah;have HCK:=Tn ah;clear ah;go_wp2_with fail;refine P2 HCK fun O V=>?_;go_wp2_with fail;refine⟨⟨rfl,rfl,rfl,rfl,rfl,rfl,rfl,rfl,k+1,Ph,Pt,E,did2,⟨T,Y,Tm an E.store.safe.length Z,Tm ad E.store.opn.length ab⟩,CN2,CL2,aa CE2 V,ai j.1 V,CS2.ext V,CO2.ext V⟩,?_⟩;exact UF
 refine PX B fun q0 q1 q2 q3 q4 q5 q6=>P4 (zs S) hl2 fun CN2 CL2=>P9 CN2.out.check CN2.out.sz.2.1 al P B I fun CHK CDL CE9 CSC CGS COW=>have ah:=eo s ⟨da,dc,Tm ua s.store.safe.length uc,Tm va s.store.opn.length vc⟩ wc P RK;?_;rw[CHK.out]at ah;have HCK:=Tn ah;clear al P B I zs heq hl2 ah;exact TP
end
section
attribute [local go_sem↓] fD
attribute [local irreducible] ak aN
def ag2{ops c tr}(C:aiL W9 ops a n c ra na rn rc nn nc tr GT GW y gb pa ck cn pc si sx){p:LM}(hp:ops[k]?=some p)(R:k<n)(hk0:(p.kind==0)=false)(hk1:(p.kind==1)=false)(t:Nat->Value)(wr:World)(hI:aeE W9 y k (t 11) wr)(Q0:Exit->Act->World->Prop):
  Code.wp UB uW (Exit.then (fun a' w'=>ag4 W9 y GT GW gb a n c a' w'/\aa1 n a'<aa1 n (qT GT GW y gb a n c k t)) Q0) (qT GT GW y gb a n c k t) wr:=by
 refine P5 C.kd C.ops' C.gs C.len fun BHKD BHOPS HQGS HN=>have h12':=C.n12;have hnc:=C.nc';?_;clear C;have HI:=Tn hI;have o:k<=n:=Yn R;have hn:n<=9223372036854775807:=Ph;clear hI;unfold qT;let bp:=bodyPost UB f3 (fun _ _=>True)
 conv=>arg 2;whnf
 obtain⟨s,did,x,hon,hdk,ah,z,T,r⟩:=HI.out;refine P4 hon hdk fun HON HDK=>?_;obtain⟨da,dc,u,v⟩:=x;obtain⟨ua,uc,va,vc,X,hv⟩:=T.sto.form;dsimp only at X hv z;subst X hv;refine P5 ah z T r fun HXR HRS HSC HOW=>?_;clear hon hdk ah z T r HI;obtain⟨pb,po,hpb,q0,q1,q2,q3⟩:=(BHOPS.ext HXR) k p hp;subst hpb;have Q0:=Tn q0;have hkc:k<c:=Ph;clear hp;go_upto_if 84 with(fail)
 go_cut [13] (fun v wx=>wx=wr/\∃nm:au,v=UH (aL nm)/\nm.length<=1000)
 case first=>
  exact UD
 obtain⟨hwc,nm1,rfl,hnm1⟩:=hcut;have hwc':=hwc.symm;subst hwc';clear hwc;go_upto_if 91 with(fail)
 go_cut [13] (fun v wx=>wx=wr/\∃nm:au,v=UH (aL nm)/\nm.length<=1000)
 case first=>
  exact UA
 obtain⟨hwc,nm,rfl,hnm⟩:=hcut;have hwc':=hwc.symm;subst hwc';have HNM:=Tn hnm;clear hwc hnm hnm1 nm1;go_upto_region 20 with(fail);go_wp2_with fail;refine(mA p.ser nm 9 wr (BHKD.ext HXR) HNM).mono ?_;rintro e W⟨ba,bn,bc,ka,kc2,b,rfl,hE,hb,hbl,hbs,hky,hk1,hk2⟩;refine P1 (ep p.ser nm 9) fun gd hgd=>P5 hgd hb hky (Xy hk1 hk2) fun HGD HB HKY HKC=>?_;rw[hgd]at hbs;rw[HGD.out];refine PC (Below.refl wr.heap.size wr) (aa HXR hE) (ai HRS hE) (HSC.ext hE) (HOW.ext hE) fun HXX J q G L=>have I:=Tn (aa HXX hE);?_;clear HXR HRS HSC HOW HXX hE hb hbl hbs hky hk1 hk2 hgd;go_upto_region 21 with(fail);refine PX q fun g0 g1 g2 g3 g4 g5 g6=>have RXR:=J;have RRS:=q;have RSC:=G;have ROW:=L;have RB:=HB;have RKY:=HKY;have RXX:=I;nV W (Tq #[Ti Tl s.share.id,ag s.share.x,U1 s.bad,U1 s.up,Tm da s.done.length dc,Tm ua s.store.safe.length uc,Tm va s.store.opn.length vc] 44) fun m F Z HQW22 D HRGB=>PC (aa J D) (ai q D) (G.ext D) (L.ext D) (aa I D) fun HXR_102 l K HOW_102 HXX_102=>?_;clear J q G L I HB HKY;go_upto_region 22 with(fail);(try rw[Z.out]);try erw[HQW22.out]
 clear g0 g1 g2 g3 g4 g5 g6;have q0:=ae Q0 HXX_102;go_upto_block 2 with(fail)
 clear q0;revert hk0 hk1;generalize p.kind=kd;intro hk0 hk1;go_cut [11,18] (fun dv gv wx=>aiY W9 y m k s ⟨da,dc,Tm ua s.store.safe.length uc,Tm va s.store.opn.length vc⟩ dv gv wx)
 case first=>
  have HDL:=Tn HON.out.sz;by_cases h2:kd=2
  .subst h2;refine P1 (fk s true (fg s.store (min 0 s.store.opn.length))) fun kk hkk=>P1 (gB s 0) fun B hs2=>P4 hkk hs2 fun HKK HS2=>PX l fun z0 z1 z2 z3 z4 z5 z6=>?_;go_upto_region 41 with(fail);clear hkk hs2;go_wp2_with fail;refine(IS K ⟨HDL.1,HDL.2.1,HDL.2.2⟩ (keep:=0) HKK HS2).mono ?_;rintro e f⟨hE,ac,H⟩;refine P4 (aa D hE) (ai HRGB hE) fun E d=>?_;clear hE z0 z1 z2 z3 z4 z5 z6;by_cases hz:kk=0
   .subst hz;obtain⟨⟨M,N,u2,v2⟩,he,hC⟩:=H rfl;subst he;obtain⟨ab,Q,Y,U,X,hv⟩:=hC.sto.form;dsimp only at X hv;subst X hv;unfold eK;dsimp only;have HSC2:=Tn hC;clear ac H hC;have j:=Tn (cu d (Ti Tl B.share.id) (ag B.share.x) (U1 B.bad) (U1 B.up) (Tm M B.done.length N) (Tm ab B.store.safe.length Q) (Tm Y B.store.opn.length U));have EX:=Tn (E.trans (j.2.below E.size (fun i hi=>Qq)));refine PX d fun z0 z1 z2 z3 z4 z5 z6=>PY d fun fz0 fz1 fz2 fz3 fz4 fz5 fz6=>?_;go_wp2_with fail;go_meet
    exact⟨0,did,rfl,QB,aa RXR EX,ai RRS EX,RSC.ext EX,ROW.ext EX,fun h=>absurd rfl h,fun _=>⟨B,⟨M,N,_,_⟩,by rw[<-HS2.out];exact M9 HON HKK,HSC2.off j.2 (ej d),j.1⟩⟩
   exact TE
  have hk2:(kd==2)=false:=by simpa using h2
  clear h2;by_cases A:kd=3
  .subst A;refine P1 (fk s false (qM s)) fun kk hkk=>P1 (ju s) fun B hs2=>P4 hkk hs2 fun HKK HS2=>PX l fun z0 z1 z2 z3 z4 z5 z6=>?_;go_upto_region 43 with(fail);clear hkk hs2;go_wp2_with fail;refine(NB K ⟨HDL.1,HDL.2.1,HDL.2.2⟩ HKK HS2).mono ?_;rintro e f⟨hE,ac,H⟩;refine P4 (aa D hE) (ai HRGB hE) fun E d=>?_;clear hE z0 z1 z2 z3 z4 z5 z6;by_cases hz:kk=0
   .subst hz;obtain⟨⟨M,N,u2,v2⟩,he,hC⟩:=H rfl;subst he;obtain⟨ab,Q,Y,U,X,hv⟩:=hC.sto.form;dsimp only at X hv;subst X hv;unfold eK;dsimp only;have HSC2:=Tn hC;clear ac H hC;have j:=Tn (cu d (Ti Tl B.share.id) (ag B.share.x) (U1 B.bad) (U1 B.up) (Tm M B.done.length N) (Tm ab B.store.safe.length Q) (Tm Y B.store.opn.length U));have EX:=Tn (E.trans (j.2.below E.size (fun i hi=>Qq)));refine PX d fun z0 z1 z2 z3 z4 z5 z6=>PY d fun fz0 fz1 fz2 fz3 fz4 fz5 fz6=>?_;go_wp2_with fail;go_meet
    exact⟨0,did,rfl,QB,aa RXR EX,ai RRS EX,RSC.ext EX,ROW.ext EX,fun h=>absurd rfl h,fun _=>⟨B,⟨M,N,_,_⟩,by rw[<-HS2.out];exact ab4 HON HKK,HSC2.off j.2 (ej d),j.1⟩⟩
   exact TE
  have hk3:(kd==3)=false:=by simpa using A
  clear A;go_wp2_with fail;go_meet
  exact⟨221,did,rfl,QB,HXR_102,l,K,HOW_102,fun _=>HON.out,fun h=>absurd h Pi⟩
 obtain⟨g,did2,rfl,hl2,ah,z,T,r,zs,heq⟩:=hcut;dsimp only at z;by_cases S:g=0
 .subst S;obtain⟨B,⟨M,N,u2,v2⟩,al,hsc2,P⟩:=heq rfl;obtain⟨ab,Q,Y,U,X,hv⟩:=hsc2.sto.form;dsimp only at X hv P;subst X hv;refine PC al.check al.sz.2.1 al hl2 (cu z (Ti Tl B.share.id) (ag B.share.x) (U1 B.bad) (U1 B.up) (Tm M B.done.length N) (Tm ab B.store.safe.length Q) (Tm Y B.store.opn.length U)) fun CHK CDL CN2 CL2 j=>PX P fun e0 am e2 e3 e4 e5 e6=>PX z fun z0 z1 z2 z3 z4 z5 z6=>PY z fun fz0 fz1 fz2 fz3 fz4 fz5 fz6=>P5 ah hsc2 z r fun CE9 CSC CGS COW=>?_;clear P ah T hsc2 z r zs heq al hl2;go_upto_region 46 with(fail);refine Pc wc y (Ti Tl B.share.id) (ag B.share.x) (U1 B.bad) (U1 B.up) (Tm M B.done.length N) (Tm ab B.store.safe.length Q) (Tm Y B.store.opn.length U) fun V2 hV2=>?_;rw[hV2]at j;(try rw[show(Ti Tt (B.share.x:Int))=ag B.share.x from rfl]);rw[hV2];clear hV2 e0 am e2 e3 e4 e5 e6 z0 z1 z2 z3 z4 z5 z6 fz0 fz1 fz2 fz3 fz4 fz5 fz6;refine P3 (CE9.trans (j.2.below CE9.size (fun i hi=>by have:=HQGS.out;have e:i=y:=hi;omega))) (CSC.off j.2 (ej CGS)) (COW.fr j.2 (fun g e=>by have e':g=y:=e;omega)) fun CE2 CS2 CO2=>PX j.1 fun q0 q1 q2 q3 q4 q5 q6=>have ad:=eo B ⟨M,N,Tm ab B.store.safe.length Q,Tm Y B.store.opn.length U⟩ V2 CS2 RK;?_;rw[CHK.out]at ad;have HCK:=Tn ad;clear ad;go_wp2_with fail;refine P2 HCK fun O V=>?_;go_wp2_with fail;refine⟨⟨rfl,rfl,rfl,rfl,rfl,rfl,rfl,rfl,k+1,Ph,Pt,B,did2,⟨M,N,Tm ab B.store.safe.length Q,Tm Y B.store.opn.length U⟩,CN2,CL2,aa CE2 V,ai j.1 V,CS2.ext V,CO2.ext V⟩,?_⟩;exact UF
 refine PX z fun q0 q1 q2 q3 q4 q5 q6=>P4 (zs S) hl2 fun CN2 CL2=>P9 CN2.out.check CN2.out.sz.2.1 ah T z r fun CHK CDL CE9 CSC CGS COW=>have ad:=eo s ⟨da,dc,Tm ua s.store.safe.length uc,Tm va s.store.opn.length vc⟩ wc T RK;?_;rw[CHK.out]at ad;have HCK:=Tn ad;clear ah T z r zs heq hl2 ad;exact TP
end
end Go.Proofs.YtjmgalpkbkcmkaaGreatDoor

import Derived.Test.YtjmgalpkbkcmkaaGreatDoorQ09
set_option maxRecDepth 100000
set_option maxHeartbeats 16000000
set_option linter.all false
namespace Go.Proofs.YtjmgalpkbkcmkaaGreatDoor
open Go.RowKit Go.Proofs.Tryz Go.Proofs.YtjmgalpkbkcmkaaGreatDoor.Tryz
open _root_.Array renaming getElem?_eq_some_iff->UE
open Exists renaming elim->UX
open Go renaming wpList_store_row->WS,Addr->VW,cell_of_row->Uc,World->UN,Value->UV,undef->VM,frozen_of_row->VQ,bodyPost_ret->VC,heap_setCell_same->VE,Calls->VB,wpIn_wide->WV,setRow_heap->Z4
open Go.Act renaming put->Ua
open Go.Ending renaming returned->UO
open Go.IntKind renaming u8->Uy,u64->Tt,i64->Tl
open Go.IntWalk renaming i64_in->Yo
open Go.Lib renaming hid->Tn
open Go.Obj renaming cells->Tq
open Go.Proofs.Tryz renaming prog->UB
open Go.Proofs.YtjmgalpkbkcmkaaGreatDoor.Fr renaming of_ext->Uh,setCell->Uz
open Go.Proofs.YtjmgalpkbkcmkaaGreatDoor.aJ renaming own->Yz
open Go.Value renaming agg->UT,bool->U1,slice->Tm,tuple->UW,int->Ti,pointer->UK
open Go.World renaming alloc_heap_new->UZ
open List renaming length_append->Uo,take_zero->Wk,take_succ_cons->Xx,length_nil->VJ,length_cons->Up
open Nat renaming lt_trans->WF,le_trans->VG
open Option renaming none->U8,some->Ts
open Or renaming inl->WQ
variable {D n:Nat} {S:Nat->Prop} {T t:TypeId} {a:Option Addr} {b c w w':World} {vs:List Value} {x0:Value}
def ahG:pD Dn:=fun w b o d=>w.cell? ⟨b,o,U8⟩=Ts (Ti Tl d.ses)/\w.cell? ⟨b,o+1,U8⟩=Ts (Ti Tl d.ser)/\w.cell? ⟨b,o+2,U8⟩=Ts (ag d.body.1)/\w.cell? ⟨b,o+3,U8⟩=Ts (ag d.body.2)
instance:mj ahG:=⟨fun h hE=>⟨ae h.1 hE,ae h.2.1 hE,ae h.2.2.1 hE,ae h.2.2.2 hE⟩⟩
abbrev Kz(w:UN)(a:Option VW)(l:List Dn):Prop:=cr 4 ahG w a l
def nK(d:Dn):List UV:=[Ti Tl d.ses,Ti Tl d.ser,ag d.body.1,ag d.body.2]
def p4(d:Dn):UV:=UT #[Ti Tl d.ses,Ti Tl d.ser,ag d.body.1,ag d.body.2]
def bP(l:List Dn):List UV:=l.flatMap nK
structure ai8(d:Dn):Prop where
 a:d.body.1<2^64
 b:d.body.2<2^64
structure gy where
 da:Option VW
 dc:Nat
 u:UV
 v:UV
def eK(s:dp)(x:gy):UV:=UT #[Ti Tl s.share.id,ag s.share.x,U1 s.bad,U1 s.up,Tm x.da s.done.length x.dc,x.u,x.v]
def nL(w:UN)(a:Option VW)(l:List Dn):Prop:=∀p,a=Ts p->l≠[]->∃cs m,w.heap[p.block]?=Ts (Tq cs 68 m)
def nL.nil:nL w a []:=fun _ _ h=>(h rfl).elim
def nL.fr{l}(h:nL w a l)(P:Fr S w b)(d:∀p,a=Ts p->l≠[]->¬S p.block):nL b a l:=fun p x c=>by
 obtain⟨cs,m,u⟩:=h p x c;exact⟨cs,m,(P.block _ (UE.1 u).1 (d p x c)).trans u⟩
def nL.ext{l}(h:nL w a l)(g:aq w b):nL b a l:=fun p x c=>by
 obtain⟨cs,m,u⟩:=h p x c;exact⟨cs,m,(g.block _ (UE.1 u).1).trans u⟩
def nL.own{base c}{l:List Dn}{f}(hn:l.length=n)(h:w.ownsRow base 68 4 (Tm a n c) n f):nL w a l:=fun p x j=>by
 rcases h.2 with⟨_,L⟩|⟨g,cap,d,b,_,S,_⟩
 .exact absurd (List.length_eq_zero_iff.1 (hn.trans L)) j
 cases b;cases x;exact⟨_,_,S⟩
def qg(w:UN)(a:Option VW)(l:List Dn):Prop:=Kz w a l/\nL w a l
def qg.ext{l}(h:qg w a l)(g:aq w b):qg b a l:=⟨h.1.ext g,h.2.ext g⟩
structure dQ(w:UN)(s:dp)(x:gy):Prop where
 done:Kz w x.da s.done
 dl:s.done.length<=x.dc
 dm:x.dc<=maxLen
 sto:gn w x.u x.v s.store
 typ:nL w x.da s.done
def dQ.ext{s x}(h:dQ w s x)(g:aq w b):dQ b s x:=⟨h.done.ext g,h.dl,h.dm,h.sto.ext g,h.typ.ext g⟩
def J3(n)(w:UN):VB UB 32 #[Ti Tl n] w fun e b=>e=UO (U1 (dZ n))/\b=w:=by
 go_enter func32,ntmps32;go_upto_region 1 with fail;refine aG (fun b=>w=b) rfl ?_;exact TT
def vG(s:bq)(w:UN):VB UB 24 #[UT #[Ti Tl s.id,ag s.x]] w (bM (U1 (kr s)) w):=by
 obtain⟨i,x⟩:=s;unfold kr ag;dsimp only;refine P1 w.heap.size fun D C=>P1 (w.alloc (Tq #[Ti Tl i,Ti Tt (x:Int)] 39)) fun t T=>have d:=Tn (show aq w t from QA);have c:t.heap[D]?=Ts (Tq #[Ti Tl i,Ti Tt (x:Int)] 39 (0,0)):=XG;PM c fun c0 c1=>?_;go_enter func24,ntmps24;go_upto_region 1 with fail;try rw[T]
 try rw[C]
 refine aG (fun b=>t=b) rfl ?_;repeat
  (first|refine az rfl rfl rfl rfl ?_|refine aF rfl rfl rfl rfl ?_|refine aw rfl ?_|refine aj rfl rfl rfl rfl rfl ?_|((first|refine av (v:=?_) rfl rfl (fun hb b l=>?_) ?_|refine ar (v:=?_) rfl rfl rfl (fun f hb b l=>?_) ?_|refine ax (v:=?_) rfl (fun b l=>?_) ?_);rotate_left;(focus(subst l;unfold ak;go_simp;first|exact aD rfl))))
  simp only[Ua,P7]
 refine aA fun b g=>?_;subst g;go_wp2;go_ret;refine⟨lh ?_,d⟩;rw[show decide ((x:Int)<1152921504606845789)=decide (x<Rp)from by congr 1;apply propext;show _↔x<1152921504606845789;omega,Bool.and_assoc]
def Dd(n):Tt.wrap n=((lJ n:Nat):Int):=by
 rw[IntKind.wrap_u64];unfold lJ;omega
def Ey(d w)(y:ai8 d):VB UB 100 #[p4 d] w (BK w (dH d)):=by
 refine P1 w.heap.size fun D C=>P1 (w.alloc (Tq #[Ti Tl d.ses,Ti Tl d.ser,ag d.body.1,ag d.body.2] 68)) fun t T=>have s:=Tn (show aq w t from QA);have f:Hid (t.heap[D]?=Ts (Tq #[Ti Tl d.ses,Ti Tl d.ser,ag d.body.1,ag d.body.2] 68 (0,0))):=Tn (PP T C);PR f fun b0 b1 b2 E=>have X:=Dd d.ses;have Q:=Dd d.ser;have M:Hid (lJ d.ses<2^64/\lJ d.ser<2^64):=Tn Zbp;have L:=Tn y;have K:Hid (dH d=eq (lJ d.ses,lJ d.ser)++eq d.body):=Tn rfl;?_;obtain⟨i0,hi,G,A,B⟩:=info_parts lz;unfold p4;go_enter func100,ntmps100;go_upto_region 1 with fail;try rw[T]
 try rw[C]
 go_wp2_with fail;refine(jY (lJ d.ses,lJ d.ser) t M.1 M.2).mono ?_;rintro e I⟨v2,rfl,g,x⟩;refine P4 g x fun m F=>have u:=Tn ((F.block D (UE.1 f).1).trans f);have b2:=Uc I D 2 _ _ _ u;have E:=Uc I D 3 _ _ _ u;?_;go_wp2_with fail;refine(jY d.body I L.a L.b).mono ?_;rintro e O⟨v3,rfl,j,V⟩;have Id:=Tn V;obtain⟨a3,c3,z,R,W,q⟩:=Yz (by rw[aT]) j;rw[aT]at z;subst z;have r:=Tn q
 go_wp2_with (
        at_builtin
        refine aX rfl _ _ 37 rfl t.heap.size 5 i0 (Ti Uy 0) 1 1 underlying37 hi G A B rfl Pi _ _ _ rfl (eM m (Uh (S:=fun _=>False) Id) (fun _ _ h=>h)) a3 16 c3 (Lib.byteCells (eq d.body)) rfl (by rw[bC,aT]) (r.news) (fun e=>by subst e;have:=eh r;rw[aT]at this;omega) (dM _) Pr Ph (by have:=F.out.size;have:=Id.out.size;omega) ?_
        intro v4 N l c
        refine P4 l c fun H J=>?_
        clear l c)
 go_ret;have P:Fr (fun k=>t.heap.size<=k) t N:=((Uh (aa F Id))).trans ((Fr.grown J).mono fun k _ e=>bE m k e);refine⟨v4,rfl,?_,s.trans (P.below s.size (fun k o=>VG s.size o))⟩;have h:=H.out;rw[<-lN,<-K.out]at h;have p:(dH d).length=32:=gl d;rw[p];exact h.mono s.size
def u9{B:Nat}{o m j:UV}(u:w.heap[B]?=Ts (Tq #[x0,o,m,j] t (0,0)))(d f g l:UV):
  ((((w.setCell ⟨B,0,U8⟩ d).setCell ⟨B,1,U8⟩ f).setCell ⟨B,2,U8⟩ g).setCell ⟨B,3,U8⟩ l).heap[B]?=Ts (Tq #[d,f,g,l] t (0,0))/\Fr (fun i=>i=B) w ((((w.setCell ⟨B,0,U8⟩ d).setCell ⟨B,1,U8⟩ f).setCell ⟨B,2,U8⟩ g).setCell ⟨B,3,U8⟩ l):=by
 have L:(w.setCell ⟨B,0,U8⟩ d).heap[B]?=Ts (Tq #[d,o,m,j] t (0,0)):=(VE w B 0 _ _ _ u).trans Pm;have h1:((w.setCell ⟨B,0,U8⟩ d).setCell ⟨B,1,U8⟩ f).heap[B]?=Ts (Tq #[d,f,m,j] t (0,0)):=(VE _ B 1 _ _ _ L).trans Pm;have c:(((w.setCell ⟨B,0,U8⟩ d).setCell ⟨B,1,U8⟩ f).setCell ⟨B,2,U8⟩ g).heap[B]?=Ts (Tq #[d,f,g,j] t (0,0)):=(VE _ B 2 _ _ _ h1).trans Pm;exact⟨(VE _ B 3 _ _ _ c).trans Pm,(Uz (S:=fun b=>b=B) _ ⟨B,0,U8⟩ _ rfl).trans ((Uz (S:=fun b=>b=B) _ ⟨B,1,U8⟩ _ rfl).trans ((Uz (S:=fun b=>b=B) _ ⟨B,2,U8⟩ _ rfl).trans (Uz (S:=fun b=>b=B) _ ⟨B,3,U8⟩ _ rfl)))⟩
def ai{b:Nat}{o:Obj}(h:w.heap[b]?=Ts o)(g:aq w c):c.heap[b]?=Ts o:=(g.block b (UE.1 h).1).trans h
def oh(b:au):UV:=if pY b then UW #[p4 (nu b),U1 true]else UW #[p4 ⟨0,0,(0,0)⟩,U1 false]
def J5(b:au)(v w)(hv:aJ w v b)(p:b.length<=1000000000):VB UB 118 #[v] w (bM (oh b) w):=by
 obtain⟨a,c,rfl,h1,h2,A⟩:=hv;have HV:Hid (aJ w (Tm a b.length c) b):=Tn ⟨_,_,rfl,h1,h2,A⟩;refine P1 b.length fun N hN=>have S:=Tn hN;P1 w.heap.size fun D C=>have T:=Tn C;P1 (w.alloc (Tq #[Ti Tl 0,Ti Tl 0,Ti Tt 0,Ti Tt 0] 68)) fun f d=>have B:=Tn (show aq w f from Pq);have l:Hid (f.heap[D]?=Ts (Tq #[Ti Tl 0,Ti Tl 0,Ti Tt 0,Ti Tt 0] 68 (0,0))):=Tn (PP d C);?_;rw[hN]at h1 p HV⊢;clear A hN;by_cases zs:N=32
 .subst zs;refine P4 (show(b.take 16).length=16 by rw[List.length_take,S.out];rfl) (show(b.drop 16).length=16 by rw[List.length_drop,S.out]) fun hL hR=>have HV1:Hid (aJ f (Tm a 16 c) (b.take 16)):=Tn (aJ.take S (HV.ext B) Ph);?_
  have HV2:Hid (aJ f (Tm (a.map fun q=>⟨q.block,q.off+16,U8⟩) 16 (c-16)) (b.drop 16)):=Tn (by
   obtain⟨a',c',hv,k1,k2,k3⟩:=(HV.ext B);injection hv with am P e3
   subst am;subst e3;rw[S.out]at k1;refine⟨_,_,by rw[hR.out],by rw[hR.out];omega,Ph,fun i x m=>?_⟩;rw[List.getElem?_drop]at m;obtain⟨b1,o1,rfl,J⟩:=k3 _ x m
   exact⟨b1,o1+16,rfl,RO⟩)
  obtain⟨ab,ao,rfl⟩:∃ab ao,a=Ts ⟨ab,ao,U8⟩:=by
   obtain⟨a',c',hv,k1,k2,k3⟩:=HV.out;injection hv with am P e3
   subst am;obtain⟨b1,o1,rfl,_⟩:=k3 0 (b[0]'Ro) (List.getElem?_eq_getElem _);exact⟨_,_,rfl⟩
  have h1':(16:Int)<=(c:Int):=Ph;have h1n:16<=c:=Ph;have h1q:¬c=16:=Ph;go_enter func118,ntmps118;go_upto_region 1 with(fail);try rw[d]
  try rw[C]
  clear d C;go_wp2_with fail;refine(Hq (b.take 16) _ f HV1 (by rw[hL.out];decide)).mono ?_;rintro e t⟨rfl,hE1⟩;have s:=Tn hE1;clear hE1;unfold AJ;go_wp2_with fail;refine P1 (A8 (b.take 16)) fun x m=>P1 (Fq (b.take 16)) fun am X=>P1 (A8 (b.drop 16)) fun y U=>P1 (Fq (b.drop 16)) fun P V=>have HRB:Hid (pY b=(decide (am=0)&&(decide (P=0)&&decide (max x.1 x.2<=1099511627776)))):=Tn (by unfold pY;rw[S.out,X,V,m];rfl);have HRS:Hid (nu b=⟨x.1,x.2,y⟩):=Tn (by unfold nu;rw[m,U]);have H2:=Tn (fun W(g:aq f W)=>Hq (b.drop 16) _ W (HV2.ext g) (by rw[hR.out];decide));?_;rw[U,V]at H2;rw[m,X];obtain⟨E,H⟩:=x;obtain⟨y1,y2⟩:=y;dsimp only;clear m X U V;refine P1 (t.alloc (Tq #[Ti Tt (E:Int),Ti Tt (H:Int)] 56)) fun V1 O=>P1 t.heap.size fun G hG=>have Z:Hid (aq f V1):=Tn (by rw[<-O];exact af s _);have HRX:Hid (V1.heap[G]?=Ts (Tq #[Ti Tt (E:Int),Ti Tt (H:Int)] 56 (0,0))):=Tn (PP O hG);?_;rw[O,hG];clear O hG;refine(H2 V1 Z).mono ?_;rintro e I⟨rfl,hE2⟩;have F:=Tn hE2;clear hE2;unfold AJ;dsimp only;refine P1 (I.alloc (Tq #[Ti Tt (y1:Int),Ti Tt (y2:Int)] 56)) fun z M=>P1 I.heap.size fun G2 ac=>have Id:Hid (aq V1 z):=Tn (by rw[<-M];exact af F _);have HRY:Hid (z.heap[G2]?=Ts (Tq #[Ti Tt (y1:Int),Ti Tt (y2:Int)] 56 (0,0))):=Tn (PP M ac);P3 (ai HRX Id) (ai l (aa Z Id)) (aa B (aa Z Id)) fun R r Q=>?_;go_upto_region 5 with(fail);try rw[M]
  try rw[ac]
  clear M ac;refine PM R fun g0 g1=>PR r fun d0 d1 d2 d3=>PS r fun f0 f1 f2 f3=>?_;by_cases u:am=0/\P=0/\max E H<=1099511627776
  .obtain⟨rfl,rfl,K⟩:=u
   have L:Hid (oh b=UW #[p4 ⟨E,H,(y1,y2)⟩,U1 true]):=Tn (by
    unfold oh
    rw[if_pos (by rw[HRB.out];simpa using K),HRS.out])
   have hm':¬(1099511627776:Int)<max (E:Int) (H:Int):=Ph;have w1:Tl.wrap (E:Int)=(E:Int):=Yo _ Ph;have w2:Tl.wrap (H:Int)=(H:Int):=Yo _ Ph;refine PM HRY fun y0 y1'=>have j:=Tn (u9 r (Ti Tl (E:Int)) (Ti Tl (H:Int)) (Ti Tt (y1:Int)) (Ti Tt (y2:Int)));?_;go_wp2_with fail;refine PQ z D (Ti Tl (E:Int)) (Ti Tl (H:Int)) (Ti Tt (y1:Int)) (Ti Tt (y2:Int)) fun W9 ad=>?_;rw[ad]at j⊢;refine PR j.1 fun q0 q1 q2 q3=>VC (v:=UW #[UT #[Ti Tl (E:Int),Ti Tl (H:Int),Ti Tt (y1:Int),Ti Tt (y2:Int)],U1 true]) Qs rfl ⟨Zfw,Q.trans (j.2.below Q.size (fun k o=>Vz))⟩
  have L:Hid (oh b=UW #[p4 ⟨0,0,(0,0)⟩,U1 false]):=Tn (by
   unfold oh;rw[if_neg];rw[HRB.out];simp only[Bool.and_eq_true,decide_eq_true_eq]
   exact u)
  have j:=Tn (u9 r (Ti Tl 0) (Ti Tl 0) (Ti Tt 0) (Ti Tt 0));have hor:¬am=0\/(am=0/\¬P=0)\/(am=0/\P=0/\(1099511627776:Int)<max (E:Int) (H:Int)):=by
   by_cases q1:am=0
   .by_cases q2:P=0
    .exact .inr (.inr ⟨q1,q2,by have:¬max E H<=1099511627776:=fun h=>u ⟨q1,q2,h⟩;omega⟩)
    exact .inr (.inl ⟨q1,q2⟩)
   exact .inl q1
  clear u;rcases hor with q1|⟨rfl,q2⟩|⟨rfl,rfl,q3⟩;all_goals
   go_wp2_with fail
   refine PQ z D (Ti Tl 0) (Ti Tl 0) (Ti Tt 0) (Ti Tt 0) fun W9 ad=>?_
   rw[ad]at j⊢
   refine PR j.1 fun q0 q1 q2 q3=>?_
   refine VC (v:=UW #[UT #[Ti Tl 0,Ti Tl 0,Ti Tt 0,Ti Tt 0],U1 false]) Qs rfl ⟨Zfw,Q.trans (j.2.below Q.size (fun k o=>Vz))⟩
 have L:Hid (oh b=UW #[p4 ⟨0,0,(0,0)⟩,U1 false]):=Tn (by unfold oh pY;rw[S.out,show decide (N=32)=false by simp[zs]];rfl);have hne':¬((N:Int)=32):=Ph;refine PR l fun d0 d1 d2 d3=>?_;go_enter func118,ntmps118;go_upto_region 1 with(fail);try rw[d]
 try rw[C]
 clear d C;refine PS l fun f0 f1 f2 f3=>have j:=Tn (u9 l (Ti Tl 0) (Ti Tl 0) (Ti Tt 0) (Ti Tt 0));?_;go_wp2_with fail;refine PQ f D (Ti Tl 0) (Ti Tl 0) (Ti Tt 0) (Ti Tt 0) fun I Y=>?_;rw[Y]at j⊢;refine PR j.1 fun q0 q1 q2 q3=>VC (v:=UW #[UT #[Ti Tl 0,Ti Tl 0,Ti Tt 0,Ti Tt 0],U1 false]) Qs rfl ⟨Zfw,B.trans (j.2.below B.size (fun k o=>Vz))⟩
def agB(w):MP w (zz,0,[]):=⟨⟨U8,0,rfl,fun _=>rfl,fun b h=>Rw⟩,rfl,fun u X=>by cases X⟩
def yD(id delay:Int)(key w):VB UB 84 #[UT #[Ti Tl id,ag key,Ti Tl delay,zz,zz,zz]] w (fun e b=>∃a c,e=UO (Tm a 0 c)/\aq w b):=by
 refine P1 w.heap.size fun D C=>P1 ((w.alloc (Tq #[Ti Tl id,ag key,Ti Tl delay,zz,zz,zz] 86)).alloc (Tq #[zz,zz] 83)) fun t T=>have s:=Tn (show aq w t from RS);?_;have N:t.heap[D+1]?=Ts (Tq #[zz,zz] 83 (0,0)):=by rw[<-T,<-C];have:=UZ (w.alloc (Tq #[Ti Tl id,ag key,Ti Tl delay,zz,zz,zz] 86)) (Tq #[zz,zz] 83);rwa[World.size_alloc]at this
 refine PM N fun c0 c1=>?_
 have q:=Tn (show∀(j:Nat)(p:UV×Nat×List UV),[((zz:UV),0,([]:List UV)),(zz,0,[])][j]?=Ts p->t.cell? ⟨D+1,j,U8⟩=Ts p.1 from by
  intro j p Q;rcases j with _|_|j
  .cases Q;exact c0
  .cases Q;exact c1
  cases Q)
 go_enter func84,ntmps84;go_wp2_with fail;try rw[T]
 try rw[C]
 refine(zV [(zz,0,[]),(zz,0,[])] (D+1) 2 t (fun p x=>by simp only[PD,or_self]at x;subst x;exact agB t) q Pi Pi).mono ?_;rintro e r⟨v5,rfl,f,d⟩;refine P4 (aa s d) f fun l m=>?_;obtain⟨a5,c5,rfl⟩:∃a c,v5=Tm a (ke [((zz:UV),0,([]:List UV)),(zz,0,[])]) c:=by
  rcases m.out.2 with⟨h,_⟩|⟨g,cap,o,h,_⟩
  .exact⟨U8,0,h⟩
  exact⟨_,cap,h⟩
 rw[show ke [((zz:UV),0,([]:List UV)),(zz,0,[])]=0 from rfl];go_wp2;go_ret;exact⟨_,_,rfl,l⟩
def lf(id delay:Int)(key)(w:UN)(hi:dZ id=true)(o:0<key)(m:key<1152921504606845789)(p:0<=delay)(r:delay<=1000):VB UB 79 #[UT #[Ti Tl id,ag key,Ti Tl delay,zz,zz,zz]] w (bM (Ti Tl 0) w):=by
 have L:= @run_makeMap UB;refine P1 w.heap.size fun D C=>P1 (w.alloc (Tq #[Ti Tl id,ag key,Ti Tl delay,zz,zz,zz] 86)) fun t T=>have q:=Tn (show aq w t from QA);have g:Hid (t.heap[D]?=Ts (Tq #[Ti Tl id,ag key,Ti Tl delay,zz,zz,zz] 86 (0,0))):=Tn (PP T C);Pd g fun c0 c1 c2 c3 c4 c5=>have N:=Tn hi;?_;clear hi;go_enter func79,ntmps79;go_upto_region 1 with fail;try rw[T]
 try rw[C]
 clear T C;refine aG (fun b=>aq t b) P0 ?_;repeat
  (first|refine az rfl rfl rfl rfl ?_|refine aF rfl rfl rfl rfl ?_|refine aw rfl ?_|refine aj rfl rfl rfl rfl rfl ?_|((first|refine av (v:=?_) rfl rfl (fun hb b l=>?_) ?_|refine ar (v:=?_) rfl rfl rfl (fun I hb b l=>?_) ?_|refine ax (v:=?_) rfl (fun b l=>?_) ?_);rotate_left;(focus(have f0:=ae c0 l;have S:=ae c1 l;have U:=ae c2 l;unfold ak;go_simp;first|exact aD l|(go_at_call 83;refine(oC id _).mono ?_;rintro e E⟨rfl,rfl⟩;exact aH l)))))
  simp only[Ua,P7]
 refine aA fun A f=>?_;have hb:(!dZ id||((key:Int)==0)||decide (1152921504606845789<=(key:Int))||decide (delay<0)||decide (1000<delay))=false:=by
  rw[N.out,show((key:Int)==0)=false from beq_false_of_ne Ph,decide_eq_false (show¬(1152921504606845789<=(key:Int))from Ph),decide_eq_false (show¬delay<0 from Ph),decide_eq_false (show¬1000<delay from Ph)];rfl
 rw[hb];refine P1 A.heap.size fun M x=>P1 (A.alloc (.map #[] 0)) fun O c=>P3 (show aq w O from by rw[<-c];exact af (aa q f) _) (show aq t O from by rw[<-c];exact af f _) (show cW UB 9 Value.string (fun s:ByteArray=>s.size<=maxLen) O M []from by rw[<-c,<-x];exact cW.made _ _ _ _ _) fun Id j J=>have R:=ae c0 j;have am:=ae c1 j;have K:=ae c2 j;have Q:=ae c3 j;have z:=ae c4 j;have G:=ae c5 j;?_;clear hb f o m p r c0 c1 c2 c3 c4 c5;go_upto_region 4 with fail;try rw[c]
 try rw[x]
 clear c x;go_wp2_with fail;refine(yD id delay key O).mono ?_;rintro e B⟨a5,V,rfl,d⟩;have u:=Tn (aa Id d);have g4:=ae z d;have y:=fun F=>(J.ext d).run_len (mt:=240) underlying240 F;clear R am K Q z G d;go_wp2;go_loopw [37] (fun i wr=>i=Ti Tl 0/\wr=B) (fun _ _=>0)
 case atStart=>exact⟨rfl,rfl⟩
 obtain⟨rfl,rfl⟩:=hrel;go_wp2;go_loopw [66] (fun i P=>i=Ti Tl 0/\P=wr) (fun _ _=>0)
 case atStart=>exact⟨rfl,rfl⟩
 obtain⟨rfl,H⟩:=hrel;subst H;go_wp2;go_ret;exact⟨rfl,u⟩
def zu(id delay:Int)(key)(l:au)(v w)(T:aJ w v l)(p:l.length<=60000000000000)(o:jE iU [l]=key)(hi:dZ id=true)(L:0<key)(h1:key<1152921504606845789)(z:0<=delay)(B:delay<=1000):VB UB 25 #[Ti Tl id,v,Ti Tl delay] w (bM (UW #[UT #[Ti Tl id,ag key,Ti Tl delay,zz,zz,zz],Ti Tl 0]) w):=by
 refine P4 T (fun w=>lf id delay key w hi L h1 z B) fun W HC=>P1 w.heap.size fun D C=>have Q:=Tn C;P1 (dX w [Tq #[Ti Tl 0,Ti Tt 0,Ti Tl 0,zz,zz,zz] 86]) fun f No=>have d:=No;?_;simp only[dX]at d;refine P4 (bZ No) (ei No C) fun x N=>?_;go_enter func25,ntmps25;go_upto_region 1 with fail;try rw[d]
 try rw[C]
 go_wp2_with fail;refine P2 (uQ v l f (W.ext x) p) fun t q=>?_;rw[o];refine P4 q (ai N q) fun s P=>P1 t.heap.size fun E g=>have M:=Tn g;P1 (t.alloc (Tq #[Ti Tl 0,Ti Tt 0,Ti Tl 0,zz,zz,zz] 86)) fun I Y=>have F:=Tn (show aq t I from QQ);have G:Hid (I.heap[E]?=Ts (Tq #[Ti Tl 0,Ti Tt 0,Ti Tl 0,zz,zz,zz] 86 (0,0))):=Tn (PP Y g);?_;(iterate 6 go_simp;go_step);go_simp;try rw[Y]
 try rw[g]
 go_step;refine WS rfl _ _ _ rfl E #[Ti Tl id,ag key,Ti Tl delay,zz,zz,zz] rfl rfl 86 _ G Pg Q8 Q6 ?_;refine P1 (I.setRow E #[Ti Tl id,ag key,Ti Tl delay,zz,zz,zz]) fun O u=>?_;rw[u];have b:Hid (O.heap[E]?=Ts (Tq #[Ti Tl id,ag key,Ti Tl delay,zz,zz,zz] 86 (0,0))):=Tn (by rw[<-u];exact Z4 I E _ _ _ _ G);have y:Hid (Fr (fun k=>k=E) I O):=Tn (by rw[<-u];exact bH _ _ _);refine Pd b fun q0 q1 q2 V S U=>have Id:=Tn (F.trans (y.below F.size (fun k o=>SC)));have R:=Tn (ai P Id);?_;go_wp2_with fail;refine P2 (HC O) fun K j=>P4 (aa x (aa s (aa Id j))) (ai R j) fun J H=>have e0:=ae q0 j;have am:=ae q1 j;have e2:=ae q2 j;have e3:=ae V j;have e4:=ae S j;have e5:=ae U j;?_;go_upto_region 4 with fail;go_step;go_step;go_simp;go_step;refine WS rfl _ _ _ rfl D #[Ti Tl id,ag key,Ti Tl delay,zz,zz,zz] rfl rfl 86 _ H Pg Q8 Q6 ?_;refine P1 (K.setRow D #[Ti Tl id,ag key,Ti Tl delay,zz,zz,zz]) fun m r=>?_;rw[r];have c:Hid (m.heap[D]?=Ts (Tq #[Ti Tl id,ag key,Ti Tl delay,zz,zz,zz] 86 (0,0))):=Tn (by rw[<-r];exact Z4 K D _ _ _ _ H);have A:Hid (Fr (fun k=>k=D) K m):=Tn TI;refine Pd c fun r0 r1 r2 Z X r5=>?_;go_wp2;exact VC (v:=UW #[UT #[Ti Tl id,ag key,Ti Tl delay,zz,zz,zz],Ti Tl 0]) (by simp[results,results25,go_sem,r0,r1,r2,Z,X,r5]) rfl ⟨rfl,J.trans (A.below J.size (fun k o=>by have:=Q.out;omega))⟩
def rF(id delay:Int)(key)(w:UN)(hi:dZ id=true)(L:0<key)(h1:key<1152921504606845789)(m:0<=delay)(r:delay<=1000):VB UB 26 #[UT #[Ti Tl id,ag key,Ti Tl delay,zz,zz,zz]] w (bM (UW #[UT #[Ti Tl id,ag (base key),Ti Tl delay],Ti Tl 0]) w):=by
 refine P4 (fun w=>lf id delay key w hi L h1 m r) (fun w=>qr key w L (show key<Rp from h1)) fun G E=>P1 w.heap.size fun D C=>have z:=Tn C;P1 (dX w [Tq #[Ti Tl id,ag key,Ti Tl delay,zz,zz,zz] 86,Tq #[Ti Tl 0,Ti Tt 0,Ti Tl 0] 90]) fun f No=>have d:=No;?_;simp only[dX]at d;refine P3 (bZ No) (ei No C) (bW No C 1 rfl) fun p b y=>Pd b fun c0 c1 c2 c3 c4 c5=>?_;go_enter func26,ntmps26;go_upto_region 1 with fail;try rw[d]
 try rw[C]
 go_wp2_with fail;refine P2 (G f) fun t q=>have s:=Tn (aa p q);have B:=ae c0 q;have am:=ae c1 q;have A:=ae c2 q;have x:=Tn (ai y q);?_;go_wp2_with fail;refine P2 (E t) fun I c=>have F:=Tn (aa s c);have c0:=ae B c;have c1:=ae am c;have c2:=ae A c;have u:=Tn (ai x c);?_;go_upto_region 5 with fail;go_step;(iterate 13 go_step;go_simp);go_step;refine WS rfl _ _ _ rfl (D+1) #[Ti Tl id,ag (base key),Ti Tl delay] rfl rfl 90 _ u Pg Q8 Q6 ?_;refine P1 (I.setRow (D+1) #[Ti Tl id,ag (base key),Ti Tl delay]) fun O j=>?_;rw[j];have g:Hid (O.heap[D+1]?=Ts (Tq #[Ti Tl id,ag (base key),Ti Tl delay] 90 (0,0))):=Tn (by rw[<-j];exact Z4 I (D+1) _ _ _ _ u);have l:Hid (Fr (fun k=>k=D+1) I O):=Tn (by rw[<-j];exact bH _ _ _);refine PK g fun q0 q1 q2=>?_;go_wp2;exact VC (v:=UW #[UT #[Ti Tl id,ag (base key),Ti Tl delay],Ti Tl 0]) (by simp[results,results26,go_sem,q0,q1,q2]) rfl ⟨rfl,F.trans (l.below F.size (fun k o=>by have:=z.out;omega))⟩
section
def Hi(f:UV)(a)(c:Nat)(w:UN):VB UB 85 #[Tm a 0 c,f] w (bM (Ti Tl (-1)) w):=by
 go_enter func85,ntmps85;go_wp2;go_loopw [8] (fun i wr=>i=Ti Tl 0/\wr=w) (fun _ _=>0)
 case atStart=>exact⟨rfl,rfl⟩
 obtain⟨rfl,rfl⟩:=hrel;exact Tf
def Bh(w:UN):VB UB 88 #[zz] w (bM (zz) w):=by
 have N:=fun w=>Lib.run_eql_slice_nil (P:=UB) w 83 175 U8 0 0 0 0 underlying83;go_enter func88,ntmps88;go_wp2_with fail;all_goals(go_ret;exact⟨rfl,P0⟩)
def ac3{B:Nat}{id delay:Int}{key}(hr:w.heap[B]?=Ts (Tq #[Ti Tl id,ag key,Ti Tl delay,zz,zz,zz] T (0,0))):∀(j:Nat)(c:Int),w.cell? ⟨B,j,U8⟩≠Ts (Ti Uy c):=by
 intro j c;unfold World.cell?;rw[hr];rcases j with _|_|_|_|_|_|j<;>simp[ag]
def mq{B:Nat}{s r q p m:UV}(hr:w.heap[B]?=Ts (Tq #[x0,s,r,q,p,m] t (0,0)))(d f g j l o:UV):
  ((((((w.setCell ⟨B,0,U8⟩ d).setCell ⟨B,1,U8⟩ f).setCell ⟨B,2,U8⟩ g).setCell ⟨B,3,U8⟩ j).setCell ⟨B,4,U8⟩ l).setCell ⟨B,5,U8⟩ o).heap[B]?=Ts (Tq #[d,f,g,j,l,o] t (0,0))/\Fr (fun i=>i=B) w ((((((w.setCell ⟨B,0,U8⟩ d).setCell ⟨B,1,U8⟩ f).setCell ⟨B,2,U8⟩ g).setCell ⟨B,3,U8⟩ j).setCell ⟨B,4,U8⟩ l).setCell ⟨B,5,U8⟩ o):=by
 have L:(w.setCell ⟨B,0,U8⟩ d).heap[B]?=Ts (Tq #[d,s,r,q,p,m] t (0,0)):=(VE _ B 0 _ _ _ hr).trans Pm;have h1:((w.setCell ⟨B,0,U8⟩ d).setCell ⟨B,1,U8⟩ f).heap[B]?=Ts (Tq #[d,f,r,q,p,m] t (0,0)):=(VE _ B 1 _ _ _ L).trans Pm;have c:(((w.setCell ⟨B,0,U8⟩ d).setCell ⟨B,1,U8⟩ f).setCell ⟨B,2,U8⟩ g).heap[B]?=Ts (Tq #[d,f,g,q,p,m] t (0,0)):=(VE _ B 2 _ _ _ h1).trans Pm;have A:((((w.setCell ⟨B,0,U8⟩ d).setCell ⟨B,1,U8⟩ f).setCell ⟨B,2,U8⟩ g).setCell ⟨B,3,U8⟩ j).heap[B]?=Ts (Tq #[d,f,g,j,p,m] t (0,0)):=(VE _ B 3 _ _ _ c).trans Pm;have x:(((((w.setCell ⟨B,0,U8⟩ d).setCell ⟨B,1,U8⟩ f).setCell ⟨B,2,U8⟩ g).setCell ⟨B,3,U8⟩ j).setCell ⟨B,4,U8⟩ l).heap[B]?=Ts (Tq #[d,f,g,j,l,m] t (0,0)):=(VE _ B 4 _ _ _ A).trans Pm;have u:((((((w.setCell ⟨B,0,U8⟩ d).setCell ⟨B,1,U8⟩ f).setCell ⟨B,2,U8⟩ g).setCell ⟨B,3,U8⟩ j).setCell ⟨B,4,U8⟩ l).setCell ⟨B,5,U8⟩ o).heap[B]?=Ts (Tq #[d,f,g,j,l,o] t (0,0)):=(VE _ B 5 _ _ _ x).trans Pm;exact⟨u,(Uz (S:=fun b=>b=B) _ ⟨B,0,U8⟩ _ rfl).trans ((Uz (S:=fun b=>b=B) _ ⟨B,1,U8⟩ _ rfl).trans ((Uz (S:=fun b=>b=B) _ ⟨B,2,U8⟩ _ rfl).trans ((Uz (S:=fun b=>b=B) _ ⟨B,3,U8⟩ _ rfl).trans ((Uz (S:=fun b=>b=B) _ ⟨B,4,U8⟩ _ rfl).trans (Uz (S:=fun b=>b=B) _ ⟨B,5,U8⟩ _ rfl)))))⟩
attribute [local irreducible] ak aN
attribute [local go_sem↓] fD
def LN(D n:Nat)(a:Option VW)(c:Nat)(d:Int)(b:au):List (UV->UN->Prop):=
 [fun v _=>v=UK (Ts ⟨D,5,U8⟩),
  fun v _=>v=zz,
  fun v _=>v=zz,
  fun v _=>v=Tm a n c,
  fun v w=>∃a4 c4,v=Tm a4 n c4/\aJ w (Tm a4 n c4) b,
  fun v _=>v=Ti Tl d,
  fun v w=>∃a4 c4,v=UT #[Tm a4 n c4,Ti Tl d]/\aJ w (Tm a4 n c4) b,
  fun v w=>∃g a4 c4,v=Tm (Ts ⟨g,0,U8⟩) 1 1/\w.cell? ⟨g,0,U8⟩=Ts (Tm a4 n c4)/\w.cell? ⟨g,1,U8⟩=Ts (Ti Tl d),
  fun v _=>∃r q,v=Tm r 1 q,
  fun v _=>v=UK (Ts ⟨D,5,U8⟩)]
def acE{c d}{b:au}:∀p∈LN D n a c d b,∀v w w',p v w->aq w w'->p v w':=by
 intro p x;simp only[LN,PD]at x;rcases x with rfl|rfl|rfl|rfl|rfl|rfl|rfl|rfl|rfl|rfl;all_goals first|exact fun _ _ _ h _=>h|(rintro v w w'⟨a4,c4,t9,L⟩hE;exact⟨a4,c4,t9,(L.ext hE)⟩)|(rintro v w w'⟨g,a4,c4,t9,L,h1⟩hE;exact⟨g,a4,c4,t9,(ae L hE),(ae h1 hE)⟩)|(rintro v w w'⟨r,q,t9⟩hE;exact⟨r,q,t9⟩)
def wQ{p:Prop}(h:p:=by
  intro vs w' hl hE hd;simp only[aK,Ua,PV];try rw[dq hd 0 Pj rfl]
  have HE:=Tn (aa (ap _) hE);clear hd hE hl;try(have z5:=ae c5 HE)
  try(have z0:=ae d0 HE)
  unfold ak;go_simp
  exact⟨rfl,P0⟩):p:=h
def aeZ(t:UN)(D:Nat)(id delay:Int)(key:Nat)(_:List UV)(w':UN):Prop:=∃b c,w'.heap[D]?=Ts (Tq #[Ti Tl id,ag key,Ti Tl delay,zz,zz,Tm b 1 c] 86 (0,0))/\Fr (fun k=>k=D) t w'
def Mh{t}{id delay:Int}{key b}{c:Nat}(hE:aq t w')(hr:w'.heap[D]?=Ts (Tq #[Ti Tl id,ag key,Ti Tl delay,zz,zz,zz] 86 (0,0))):aeZ t D id delay key vs (w'.setCell ⟨D,5,U8⟩ (Tm b 1 c)):=
 ⟨b,c,(VE w' D 5 _ _ _ hr).trans Pm,(Uh hE).trans (Uz (S:=fun k=>k=D) _ ⟨D,5,U8⟩ _ rfl)⟩
def aiA(D n:Nat)(a:Option VW)(c:Nat)(id d:Int)(b:au):List (UV->UN->Prop):=
 [fun v _=>v=UK (Ts ⟨D,0,U8⟩),
  fun v _=>v=Ti Tl id,
  fun v _=>v=Ti Tl d,
  fun v _=>v=Tm a n c,
  fun v _=>v=AJ (eH b),
  fun v _=>v=UT #[Ti Tl id,Ti Tl d,ag (eH b).1,ag (eH b).2,Ti Tt 0,Ti Tt 0]]
def abU{c}{id d:Int}{b:au}:∀p∈aiA D n a c id d b,∀v w w',p v w->aq w w'->p v w':=by
 intro p x;simp only[aiA,PD]at x;rcases x with rfl|rfl|rfl|rfl|rfl|rfl;all_goals first|exact fun _ _ _ h _=>h
def xx{p:Prop}(h:p:=by
  intro vs w' hl hE hd;simp only[aK,Ua,PV];try rw[dq hd 0 Pj rfl]
  try rw[dq hd 1 Pj rfl]
  try rw[dq hd 2 Pj rfl]
  try rw[dq hd 4 Pj rfl]
  have HE:=Tn (aa (ap _) hE);clear hd hE hl;try(have z5:=ae c0 HE)
  try(have z0:=ae d0 HE)
  try(unfold AJ)
  unfold ak;go_simp
  exact⟨rfl,P0⟩):p:=h
def Oe(t:UN)(D:Nat)(id c:Int)(b:au)(_:List UV)(w':UN):Prop:=w'.heap[D+3]?=Ts (Tq #[Ti Tl id,Ti Tl c,ag (eH b).1,ag (eH b).2,Ti Tt 0,Ti Tt 0] 101 (0,0))/\Fr (fun k=>k=D+3) t w'
def LF{t}{id c:Int}{b:au}{d m j l g f:UV}(hE:aq t w')(hr:w'.heap[D+3]?=Ts (Tq #[d,m,j,l,g,f] 101 (0,0))):Oe t D id c b vs ((((((w'.setCell ⟨D+3,0,U8⟩ (Ti Tl id)).setCell ⟨D+3,1,U8⟩ (Ti Tl c)).setCell ⟨D+3,2,U8⟩ (ag (eH b).1)).setCell ⟨D+3,3,U8⟩ (ag (eH b).2)).setCell ⟨D+3,4,U8⟩ (Ti Tt 0)).setCell ⟨D+3,5,U8⟩ (Ti Tt 0)):=
 ⟨(mq hr _ _ _ _ _ _).1,(Uh hE).trans (mq hr _ _ _ _ _ _).2⟩
def abO{B:Nat}{f g j m l:UV}(hr:w.heap[B]?=Ts (Tq #[x0,f,g,j,m,l] t (0,0)))(c d:UV):
  ((w.setCell ⟨B,4,U8⟩ c).setCell ⟨B,5,U8⟩ d).heap[B]?=Ts (Tq #[x0,f,g,j,c,d] t (0,0))/\Fr (fun i=>i=B) w ((w.setCell ⟨B,4,U8⟩ c).setCell ⟨B,5,U8⟩ d):=by
 have L:(w.setCell ⟨B,4,U8⟩ c).heap[B]?=Ts (Tq #[x0,f,g,j,c,l] t (0,0)):=(VE _ B 4 _ _ _ hr).trans Pm;exact⟨(VE _ B 5 _ _ _ L).trans Pm,(Uz (S:=fun b=>b=B) _ ⟨B,4,U8⟩ _ rfl).trans (Uz (S:=fun b=>b=B) _ ⟨B,5,U8⟩ _ rfl)⟩
def GL(D:Nat)(key:Nat)(id:Int)(b:Int)(l1:Nat)(l2:Nat)(ge:Nat)(gs:Nat)(msg:au):List (UV->UN->Prop):=
 [ev (UK (Ts ⟨D,1,U8⟩)),
  ev (ag key),
  ev (UT #[Ti Tl id,Ti Tl b,ag l1,ag l2,Ti Tt 0,Ti Tt 0]),
  fun v w=>aJ w v msg,
  ev (UW #[UT #[ag ge,ag gs],Ti Tl 0]),
  ev (UW #[UT #[ag ge,ag gs],Ti Tl 0]),
  ev (UT #[ag ge,ag gs]),
  ev (Ti Tl 0),
  ev (UK (Ts ⟨D+3,4,U8⟩)),
  tv,
  ev (Ti Tl 0)]
def aiE(D:Nat)(key:Nat)(id:Int)(b:Int)(l1:Nat)(l2:Nat)(ge:Nat)(gs:Nat)(msg:au):List (UV->UN->Prop):=
 GL D key id b l1 l2 ge gs msg|>.set 3 tv
def Nh(V:UN)(D:Nat)(id:Int)(b:Int)(l1:Nat)(l2:Nat)(ge:Nat)(gs:Nat)(w:UN):Prop:=w.heap[D+3]?=Ts (Tq #[Ti Tl id,Ti Tl b,ag l1,ag l2,ag ge,ag gs] 101 (0,0))/\Fr (fun i=>i=D+3) V w
def ol{p:Prop}(h:p:=by
  intro s vs w' hlo hhi hl hK hd;rcases(show s=0\/s=1 from Ph)with rfl|rfl<;>try omega
  all_goals first
  |(
    have HK0:Hid (aq W8 w'):=hK;clear hK;simp only[aK,Ua,PV];(try rw[dq hd 0 Pj rfl]);(try rw[dq hd 1 Pj rfl]);(try rw[dq hd 2 Pj rfl]);(try(have h_3:=hd 3 Pj;simp only[PW,GL]at h_3;refine P1 (vs.getD 3 VM) fun u_3 hu_3=>?_;rw[hu_3]at h_3⊢;have H_3:=Tn h_3;clear h_3 hu_3));(try rw[dq hd 4 Pj rfl]);(try rw[dq hd 5 Pj rfl]);(try rw[dq hd 6 Pj rfl]);have HL:=Tn hl;clear hd hl;(try(have z:=ae (Uc _ D 1 _ _ _ HPD8) HK0));(try(have hr:=ai HPQ8 HK0;refine Pd hr fun z0 z1 z2 z3 z4 z5=>?_));unfold ak;go_simp
    exact⟨rfl,P0⟩)
  |(
    have hk:=hK;simp only[PW]at hk;unfold Nh at hk;refine P4 hk.1 hk.2 fun HK0 HK1=>?_;clear hk hK;simp only[aK,Ua,PV];(try rw[dq hd 0 Pj rfl]);(try rw[dq hd 1 Pj rfl]);(try rw[dq hd 2 Pj rfl]);(try rw[dq hd 4 Pj rfl]);(try rw[dq hd 5 Pj rfl]);(try rw[dq hd 6 Pj rfl]);(try rw[dq hd 7 Pj rfl]);(try rw[dq hd 8 Pj rfl]);have HL:=Tn hl;clear hd hl;unfold ak;go_simp
    exact⟨rfl,P0⟩)):p:=h
def Lb(key:Nat)(id:Int)(delay:Int)(b:Int)(d:Option VW)(c:Nat)(l1:Nat)(l2:Nat)(ge:Nat)(gs:Nat):List (UV->UN->Prop):=
 [ev (UT #[Ti Tl id,ag key,Ti Tl delay,zz,zz,Tm d 1 c]),
  ev (UT #[Ti Tl id,Ti Tl b,ag l1,ag l2,ag ge,ag gs]),
  ev (Ti Tl 0),
  tv,
  tv,
  ev (Ti Tl 0)]
def Od(key:Nat)(id:Int)(delay:Int)(b:Int)(d:Option VW)(c:Nat)(l1:Nat)(l2:Nat)(ge:Nat)(gs:Nat):List (UV->UN->Prop):=
 Lb key id delay b d c l1 l2 ge gs
def Me(V:UN)(D:Nat)(key:Nat)(id:Int)(delay:Int)(c:Option VW)(b:Nat)(w:UN):Prop:=w.heap[D+2]?=Ts (Tq #[Ti Tl id,ag key,Ti Tl delay,zz,zz,Tm c 1 b] 86 (0,0))/\Fr (fun i=>i=D+2) V w
def aiG(key:Nat)(id:Int)(delay:Int)(b:Int)(d:Option VW)(c:Nat)(l1:Nat)(l2:Nat)(ge:Nat)(gs:Nat):List (UV->UN->Prop):=
 Od key id delay b d c l1 l2 ge gs
def OB(V:UN)(D:Nat)(key:Nat)(id:Int)(delay:Int)(b:Int)(d:Option VW)(c:Nat)(l1:Nat)(l2:Nat)(ge:Nat)(gs:Nat)(w:UN):Prop:=w.heap[D+2]?=Ts (Tq #[Ti Tl id,ag key,Ti Tl delay,zz,zz,Tm d 1 c] 86 (0,0))/\w.heap[D+3]?=Ts (Tq #[Ti Tl id,Ti Tl b,ag l1,ag l2,ag ge,ag gs] 101 (0,0))/\Fr (fun i=>i=D+2\/i=D+3) V w
def Bf{p:Prop}(h:p:=by
  intro s vs w' hlo hhi hl hK hd;rcases(show s=0\/s=1\/s=2 from Ph)with rfl|rfl|rfl<;>try omega
  all_goals first
  |(
    have HK0:Hid (aq W9 w'):=hK;clear hK;simp only[aK,Ua,PV];have HL:=Tn hl;clear hd hl;(try(have hr:=ai HPD9 HK0;refine Pd hr fun z0 z1 z2 z3 z4 z5=>?_));(try(have hr:=ai HPQ9 HK0;refine Pd hr fun z0 z1 z2 z3 z4 z5=>?_));unfold ak;go_simp
    exact⟨rfl,P0⟩)
  |(
    have hk:=hK;simp only[PW]at hk;unfold Me at hk;refine P4 hk.1 hk.2 fun HK0 HK1=>?_;clear hk hK;simp only[aK,Ua,PV];have HL:=Tn hl;clear hd hl;(try(have hr:=aM HPQ9 HK1 Ph;refine Pd hr fun z0 z1 z2 z3 z4 z5=>?_));unfold ak;go_simp
    exact⟨rfl,P0⟩)
  |(
    have hk:=hK;simp only[PW]at hk;unfold OB at hk;refine P3 hk.1 hk.2.1 hk.2.2 fun HK0 HK1 HK2=>?_;clear hk hK;simp only[aK,Ua,PV];(try rw[dq hd 0 Pj rfl]);(try rw[dq hd 1 Pj rfl]);(try rw[dq hd 2 Pj rfl]);have HL:=Tn hl;clear hd hl;unfold ak;go_simp
    exact⟨rfl,P0⟩)):p:=h
def xj(b:au):(eH b).1<2^64/\(eH b).2<2^64:=by
 unfold eH cj;have h:=fun x=>lk x;exact⟨WF (h _).1 Pi,WF (h _).2 Pi⟩
def D1(l a)(u:nD):(dU l a u).length<=60000000000000:=by
 unfold dU fq;rw[Uo,Uo,Uo,aI,aI,aT];decide
def MD(id delay:Int)(key)(b:au)(K:Int)(v w)(hi:dZ id=true)(L:0<key)(h1:key<1152921504606845789)(H:0<=delay)(J:delay<=1000)(W:aJ w v b)(hb:dz b=false)(B:b.length<=1000000):
  VB UB 28 #[UT #[Ti Tl id,ag key,Ti Tl delay,zz,zz,zz],v,Ti Tl K] w (bM (UW #[UT #[Ti Tl 0,Ti Tt 0,Ti Tl 0,zz,zz,zz],UT #[Ti Tl 0,Ti Tl 0,Ti Tt 0,Ti Tt 0,Ti Tt 0,Ti Tt 0],Ti Tl 1]) w):=by
 have HC:=Tn (fun w=>lf id delay key w hi L h1 H J);have cf:=W.form;obtain⟨a,c,rfl⟩:=cf;refine P1 b.length fun n A=>P3 A W hb fun Y X R=>?_;rw[A];clear A hb hi L h1 H J B W;refine P1 w.heap.size fun D C=>have I:=Tn C;P1 (dX w [Tq #[Ti Tl id,ag key,Ti Tl delay,zz,zz,zz] 86,Tq #[Tm a n c] 37,Tq #[Ti Tl 0,Ti Tt 0,Ti Tl 0,zz,zz,zz] 86,Tq #[Ti Tl 0,Ti Tl 0,Ti Tt 0,Ti Tt 0,Ti Tt 0,Ti Tt 0] 101]) fun f No=>have d:=No;?_;simp only[dX]at d;refine PC (bZ No) (ei No C) (bW No C 1 rfl) (bW No C 2 rfl) (bW No C 3 rfl) fun G p E Q S=>?_;clear No;refine Pd p fun c0 c1 c2 c3 c4 c5=>have d0:=Uc f (D+1) 0 _ _ _ E;?_;go_enter func28,ntmps28;go_upto_region 1 with fail;try rw[d]
 try rw[C]
 clear d C;go_wp2_with fail;refine(HC f).mono ?_;rintro e t⟨rfl,q⟩;refine PC (aa G q) (ai p q) (ai E q) (ai Q q) (ai S q) fun s x U T O=>have HB:Hid (aJ t (Tm a n c) b):=Tn (by have:=X.out.ext s;rwa[Y.out]at this);?_;clear c0 c1 c2 c3 c4 c5 d0 q;refine Pd x fun c0 c1 c2 c3 c4 c5=>have d0:=Uc t (D+1) 0 _ _ _ U;?_;go_upto_region 4 with fail;refine aG (fun w'=>aq t w') P0 ?_;repeat
  (first|refine az rfl rfl rfl rfl ?_|refine aF rfl rfl rfl rfl ?_|refine aw rfl ?_|refine aj rfl rfl rfl rfl rfl ?_|((first|refine av (v:=?_) rfl rfl (fun hb w' l=>?_) ?_|refine ar (v:=?_) rfl rfl rfl (fun hb1 hb w' l=>?_) ?_|refine ax (v:=?_) rfl (fun w' l=>?_) ?_);rotate_left;(focus(have f0:=ae d0 l;unfold ak;go_simp;first|exact aD l|(go_at_call 82;refine(yL b _ _ (HB.ext l)).mono ?_;rintro e M⟨rfl,rfl⟩;exact aH l)|(go_at_call 83;refine(oC K _).mono ?_;rintro e M⟨rfl,rfl⟩;exact aH l)))))
  simp only[Ua,P7]
 refine aA fun w2 z=>?_;rw[R.out];simp only[Bool.not_false,Bool.true_or];refine P3 (aa s z) (ai T z) (ai O z) fun F j N=>?_;clear c0 c1 c2 c3 c4 c5 d0 z;refine Pd j fun e0 am e2 e3 e4 e5=>Pf j fun fz0 fz1 fz2 Z fz4 fz5=>have y:=Tn (mq j (Ti Tl 0) (Ti Tt 0) (Ti Tl 0) (zz) (zz) (zz));Pe w2 (D+2) (Ti Tl 0) (Ti Tt 0) (Ti Tl 0) (zz) (zz) (zz) fun o V=>?_;rw[V]at y;have g:=Tn (aM N y.2 Ph);refine Pd g fun k0 k1 k2 k3 k4 k5=>Pf g fun ab fk1 fk2 fk3 fk4 fk5=>have m:=Tn (mq g (Ti Tl 0) (Ti Tl 0) (Ti Tt 0) (Ti Tt 0) (Ti Tt 0) (Ti Tt 0));Pe o (D+3) (Ti Tl 0) (Ti Tl 0) (Ti Tt 0) (Ti Tt 0) (Ti Tt 0) (Ti Tt 0) fun r P=>?_;rw[P]at m;have u:=Tn (aM y.1 m.2 Ph);refine Pd u fun q0 q1 q2 q3 q4 q5=>Pd m.1 fun r0 r1 r2 r3 r4 r5=>?_;go_wp2;exact VC (v:=UW #[UT #[Ti Tl 0,Ti Tt 0,Ti Tl 0,zz,zz,zz],UT #[Ti Tl 0,Ti Tl 0,Ti Tt 0,Ti Tt 0,Ti Tt 0,Ti Tt 0],Ti Tl 1]) Xr rfl ⟨rfl,F.trans ((y.2.below F.size (fun k hk=>by have:=I.out;have e':k=D+2:=hk;omega)).trans (m.2.below (n:=w.heap.size) (VG F.size y.2.size) (fun k hk=>by have:=I.out;have e':k=D+3:=hk;omega)))⟩
def O2(id delay:Int)(key)(b:au)(m v w)(hi:dZ id=true)(L:0<key)(h1:key<1152921504606845789)(hd0:0<=delay)(hd1:delay<=1000)(hv:aJ w v b)(hb:dz b=true)(hn:dZ m=true):
  VB UB 28 #[UT #[Ti Tl id,ag key,Ti Tl delay,zz,zz,zz],v,Ti Tl m] w (fun e w'=>∃X uq,e=UO (UW #[UT #[Ti Tl id,ag key,Ti Tl delay,zz,zz,Tm X 1 uq],UT #[Ti Tl id,Ti Tl m,ag (eH b).1,ag (eH b).2,ag (lW key (dU id m (eH b))).e,ag (lW key (dU id m (eH b))).s],Ti Tl 0])/\aq w w'):=by
 have HC:=Tn (fun w=>lf id delay key w hi L h1 hd0 hd1);have hbl:b.length<=1000000:=by unfold dz at hb;simp at hb;omega
 have cf:=hv.form;obtain⟨a,c,rfl⟩:=cf;refine P1 b.length fun n hn'=>PG hn' hv hb hn hbl L h1 fun HN HV HBB HNW HBL HK0 HK1=>?_;rw[hn'];clear hn' hb hn hi L h1 hd0 hd1 hbl hv;refine P1 w.heap.size fun D C=>have HSD:=Tn C;P1 (dX w [Tq #[Ti Tl id,ag key,Ti Tl delay,zz,zz,zz] 86,Tq #[Tm a n c] 37,Tq #[Ti Tl 0,Ti Tt 0,Ti Tl 0,zz,zz,zz] 86,Tq #[Ti Tl 0,Ti Tl 0,Ti Tt 0,Ti Tt 0,Ti Tt 0,Ti Tt 0] 101]) fun f No=>have d:=No;?_;simp only[dX]at d;refine PC (bZ No) (ei No C) (bW No C 1 rfl) (bW No C 2 rfl) (bW No C 3 rfl) fun HEW0 M HP1 HP2 HP3=>?_;clear No;refine Pd M fun c0 c1 c2 c3 c4 c5=>have d0:=Uc f (D+1) 0 _ _ _ HP1;?_;go_enter func28,ntmps28;go_upto_region 1 with fail;try rw[d]
 try rw[C]
 clear d C;go_wp2_with fail;refine(HC f).mono ?_;rintro e t⟨rfl,U⟩;refine PC (aa HEW0 U) (ai M U) (ai HP1 U) (ai HP2 U) (ai HP3 U) fun HE1 N HPA HPR HPQ=>have HB:Hid (aJ t (Tm a n c) b):=Tn (by have:=HV.out.ext HE1;rwa[HN.out]at this);?_;clear c0 c1 c2 c3 c4 c5 d0 U;refine Pd N fun c0 c1 c2 c3 c4 c5=>have d0:=Uc t (D+1) 0 _ _ _ HPA;?_;go_upto_region 4 with fail;refine aG (fun w'=>aq t w') P0 ?_;repeat
  (first|refine az rfl rfl rfl rfl ?_|refine aF rfl rfl rfl rfl ?_|refine aw rfl ?_|refine aj rfl rfl rfl rfl rfl ?_|((first|refine av (v:=?_) rfl rfl (fun hb w' l=>?_) ?_|refine ar (v:=?_) rfl rfl rfl (fun hb1 hb w' l=>?_) ?_|refine ax (v:=?_) rfl (fun w' l=>?_) ?_);rotate_left;(focus(have f0:=ae d0 l;unfold ak;go_simp;first|exact aD l|(go_at_call 82;refine(yL b _ _ (HB.ext l)).mono ?_;rintro e w''⟨rfl,rfl⟩;exact aH l)|(go_at_call 83;refine(oC m _).mono ?_;rintro e w''⟨rfl,rfl⟩;exact aH l)))))
  simp only[Ua,P7]
 refine aA fun w2 H=>?_;rw[HBB.out,HNW.out];have F:=Tn H;have e0:=ae c0 H;have am:=ae c1 H;have e2:=ae c2 H;have e3:=ae c3 H;have e4:=ae c4 H;have e5:=ae c5 H;have f0:=ae d0 H;clear c0 c1 c2 c3 c4 c5 d0 H;go_wp2_with fail;refine(yD id delay key w2).mono ?_;rintro e w5⟨a5,k5,rfl,y⟩;have HE5:=Tn (aa F y);have g0:=ae f0 y;clear e0 am e2 e3 e4 e5 f0 y;go_wp2_with fail;refine(Hi _ a5 k5 w5).mono ?_;rintro e O⟨rfl,hE6⟩;have T:=Tn (aa HE5 hE6);refine PC (ai N T) (ai HPA T) (ai HPR T) (ai HPQ T) (HB.ext T) fun A HPA6 HPR6 HPQ6 HB6=>?_;clear g0 hE6;refine Pd A fun c0 c1 c2 c3 c4 c5=>have d0:=Uc O (D+1) 0 _ _ _ HPA6;?_;go_wp2_with fail;refine(WV (n:=0)).1 ?_;refine gp (r:=U8) 10 11 [Ts 34,Ts 35,Ts 36,Ts 37,Ts 38,Ts 39,Ts 40,Ts 41,Ts 42,Ts 43,U8] Pg Pg Pg Pg rfl rfl Pg (LN D n a c m b) acE (aeZ O D id delay key) ?steps ?last ?fin
 case steps=>
  simp only[Xx,Wk];refine⟨wQ,wQ,?_,wQ,?_,wQ,?_,?_,?_,wQ,trivial⟩
  .intro vs w' hl hE hd;have z:=hd 1 Pg;simp only[LN,PW]at z;simp only[aK,Ua,PV];rw[z];clear z;have HE:=Tn (aa (ap O) hE);clear hd hE hl;unfold ak;go_simp;go_at_call 88;refine(Bh _).mono ?_;exact Un
  .intro vs w' hl hE hd;have h_3:=hd 3 Pg;simp only[LN,PW]at h_3;simp only[aK,Ua,PV];rw[h_3];clear h_3;have HE:=Tn (aa (ap O) hE);clear hd hE hl;unfold ak;go_simp;go_at_call 89;refine(qu b _ _ (HB6.ext HE) Qr).mono ?_;rintro e w5⟨v5,rfl,Y,y⟩;obtain⟨a5,c5,hv5,h5⟩:=Yz rfl Y;rw[HN.out]at hv5;subst hv5;exact⟨_,rfl,⟨a5,c5,rfl,Yz rfl Y⟩,y⟩
  .intro vs w' hl hE hd;have p:=hd 4 Pg;simp only[LN,PW]at p;refine UX p fun a4 p=>UX p fun c4 p=>have hv_4:=p.1;have H_4_0:=Tn p.2;?_;clear p;have o:=hd 5 Pg;simp only[LN,PW]at o;simp only[aK,Ua,PV];rw[hv_4,o];clear hv_4 o;have HE:=Tn (aa (ap O) hE);clear hd hE hl;unfold ak;go_simp;exact⟨⟨a4,c4,rfl,H_4_0⟩,P0⟩
  .intro vs w' hl hE hd;have x:=hd 6 Pg;simp only[LN,PW]at x;refine UX x fun a4 x=>UX x fun c4 x=>have hv_6:=x.1;have H_6_0:=Tn x.2;?_;clear x;simp only[aK,Ua,PV];rw[hv_6];clear hv_6;have HE:=Tn (aa (ap O) hE);clear hd hE hl;unfold ak;go_simp;exact⟨⟨_,a4,c4,rfl,Uc _ _ 0 _ _ _ (UZ _ _),Uc _ _ 1 _ _ _ (UZ _ _)⟩,af P0 _⟩
  intro vs w' hl hE hd;have J:=hd 2 Pg;simp only[LN,PW]at J;have G:=hd 7 Pg;simp only[LN,PW]at G;refine UX G fun g G=>UX G fun a4 G=>UX G fun c4 G=>have hv_7:=G.1;P4 G.2.1 G.2.2 fun H_7_0 H_7_1=>?_;clear G;simp only[aK,Ua,PV];rw[J,hv_7];clear J hv_7;have HE:=Tn (aa (ap O) hE);clear hd hE hl;obtain⟨i0,hi,hz0,hz1,hz2⟩:=info_parts vu
  have hrun:=run_append_nil (P:=UB) w' 83 83 175 i0 (UT #[zz,Ti Tl 0]) underlying83 hi hz0 ⟨g,0,U8⟩ 1 1 [Tm a4 n c4,Ti Tl m] (by rw[hz1];rfl) (fun j u Q=>by
   match j,Q with
   |0,Q=>cases Q;exact H_7_0.out
   |1,Q=>cases Q;exact H_7_1.out) Pi Pi (by rw[hz2];decide)
  rw[fD]at hrun;clear hi hz0 hz1 hz2;unfold ak;go_simp;exact⟨⟨_,_,rfl⟩,af (ap _) _⟩
 case last=>
  intro vs w' hl hE hd;have h_9:=hd 9 Pi;simp only[LN,PW]at h_9;have B:=hd 8 Pi;simp only[LN,PW]at B;refine UX B fun r B=>UX B fun q B=>have hv_8:=B;?_;clear B;simp only[aK,Ua,PV];rw[h_9,hv_8];clear h_9 hv_8;refine P4 (aa (ap O) hE) hl fun HE HL=>?_;clear hd hE hl;have hr:=ai A HE;have e5:=Uc w' D 5 _ _ _ hr;have fz5:=VQ w' D 5 _ _ hr;unfold ak;go_simp;exact Mh (HE) hr
 case fin=>
  intro vs w' hl K;obtain⟨X,uq,hrD,K⟩:=K;simp only[aK,Ua,PV];refine P5 hrD (aM HPA6 K Ph) (aM HPR6 K Ph) (aM HPQ6 K Ph) fun E HPA7 HPR7 HPQ7=>have HB7:Hid (aJ w' (Tm a n c) b):=Tn (HB6.off K (ac3 A));have HE7:Hid (Fr (fun k=>k=D) t w'):=Tn ((Uh T).trans K);?_;clear K hrD hl c0 c1 c2 c3 c4 c5 d0;obtain⟨V,hW7⟩:∃V,V=w':=⟨_,rfl⟩;subst hW7;generalize vs.getD 0 VM=v0;generalize vs.getD 1 VM=v1;generalize vs.getD 2 VM=v2;generalize vs.getD 3 VM=v3;generalize vs.getD 4 VM=v4;generalize vs.getD 5 VM=v5;generalize vs.getD 6 VM=v6;generalize vs.getD 7 VM=v7;generalize vs.getD 8 VM=v8;generalize vs.getD 9 VM=v9;generalize vs.getD 10 VM=v10;refine Pd E fun c0 c1 c2 c3 c4 c5=>have d0:=Uc V (D+1) 0 _ _ _ HPA7;?_;go_wp2_with fail;refine(WV (n:=0)).1 ?_;refine gp (r:=U8) 6 7 [Ts 58,Ts 59,Ts 60,Ts 61,Ts 62,Ts 63,U8] Pg Pg Pg Pg rfl rfl Pg (aiA D n a c id m b) abU (Oe V D id m b) ?steps ?last ?fin
  case steps=>
   simp only[Xx,Wk];refine⟨xx,xx,xx,xx,?_,xx,trivial⟩;intro vs w' hl hE hd;have h_3:=hd 3 Pg;simp only[aiA,PW]at h_3;simp only[aK,Ua,PV];rw[h_3];clear h_3;have HE:=Tn (aa (ap V) hE);clear hd hE hl;unfold ak;go_simp;go_at_call 90;refine(Cj b _ _ (HB7.ext HE) Qr).mono ?_;exact Un
  case last=>
   intro vs w' hl hE hd;have o:=hd 5 Pi;simp only[aiA,PW]at o;simp only[aK,Ua,PV];rw[o];clear o;refine P4 (aa (ap V) hE) hl fun HE HL=>?_;clear hd hE hl;have hr:=ai HPQ7 HE;refine Pd hr fun e0 am e2 e3 e4 e5=>Pf hr fun fz0 fz1 fz2 fz3 fz4 fz5=>?_;unfold ak;go_simp;exact LF HE hr
  case fin=>
   intro vs w' hl K;obtain⟨hrQ,K⟩:=K;simp only[aK,Ua,PV];generalize vs.getD 0 VM=y0;generalize vs.getD 1 VM=y1;generalize vs.getD 2 VM=y2;generalize vs.getD 3 VM=y3;generalize vs.getD 4 VM=y4;generalize vs.getD 5 VM=y5;refine P3 hrQ (aM E K Ph) (aM HPR7 K Ph) fun HPQ8 HPD8 HPR8=>have HE8:Hid (Fr (fun k=>k=D\/k=D+3) t w'):=Tn ((HE7.mono fun _ _ e=>WQ e).trans (K.mono fun _ _ e=>Or.inr e));?_;obtain⟨W8,hW8⟩:∃W8,W8=w':=⟨_,rfl⟩;subst hW8;clear K hrQ hl c0 c1 c2 c3 c4 c5 d0;refine P1 ((eH b).1) fun l1 hl1=>P1 ((eH b).2) fun l2 hl2=>P1 (dU id m (eH b)) fun msg I=>P1 ((lW key msg).e) fun ge hge=>P1 ((lW key msg).s) fun gs hgs=>P4 (fun W=>wH id m (eH b) 0 0 W (xj b).1 (xj b).2) (fun v W(hv:aJ W v msg)=>abN key v msg W HK0 HK1 hv (by rw[<-I];exact D1 _ _ _)) fun HOP HSI=>have R:Hid ((eH b).1=l1/\(eH b).2=l2/\(lW key (dU id m (eH b))).e=ge/\(lW key (dU id m (eH b))).s=gs):=Tn ⟨hl1,hl2,by rw[I];exact hge,by rw[I];exact hgs⟩;?_;rw[hge,hgs]at HSI;rw[hl1,hl2,I]at HOP;rw[hl1,hl2]at HPQ8;clear hl1 hl2 I hge hgs;go_wp2_with fail;have X0:EX (GL D key id m l1 l2 ge gs msg):=by repeat first|exact Gl|refine EC ?_|refine Gx ?_|refine Ek (fun v w w' h hE=>h.ext hE) ?_
   refine(WV (n:=0)).1 ?_;refine bu (r:=U8) 11 [9] [cT,cT,cT,cT,cT,cT,cT,(false,0,1),cT,(true,0,0),(false,1,1)] [Ts 65,Ts 66,Ts 67,Ts 68,Ts 69,Ts 64,Ts 70,Ts 71,Ts 72,U8,Ts 8] Pg Pg Pg [aq W8,Nh W8 D id m l1 l2 ge gs] (ss yk RV) [GL D key id m l1 l2 ge gs msg,aiE D key id m l1 l2 ge gs msg] (ss X0 (X0.stv)) ?k0 ?steps ?fin
   case k0=>exact ap W8
   case steps=>
    refine⟨ol,ol,ol,?_,?_,ol,ol,ol,ol,?_,ol,trivial⟩
    .intro s vs w' hlo hhi hl hK hd;obtain rfl:s=0:=Ph;clear hlo hhi;have HK0:Hid (aq W8 w'):=hK;clear hK;simp only[aK,Ua,PV];(try rw[dq hd 2 Pg rfl]);have HL:=Tn hl;clear hd hl;unfold ak;go_simp;go_at_call 92;refine(HOP _).mono ?_;rintro e w5⟨v5,rfl,h5,y⟩;exact⟨_,rfl,h5,y⟩
    .intro s vs w' hlo hhi hl hK hd;obtain rfl:s=0:=Ph;clear hlo hhi;have HK0:Hid (aq W8 w'):=hK;clear hK;have h_3:=hd 3 Pg;simp only[PW,GL]at h_3;refine P1 (vs.getD 3 VM) fun u_3 hu_3=>?_;rw[hu_3]at h_3;have H_3:=Tn h_3;clear h_3;simp only[aK,Ua,PV];(try rw[dq hd 1 Pg rfl]);(try rw[hu_3]);clear hu_3;have HL:=Tn hl;clear hd hl;unfold ak;go_simp;go_at_call 91;refine(HSI _ _ H_3).mono ?_;exact Un
    intro vs w' hl hK hd;have HK0:Hid (aq W8 w'):=hK;clear hK;have t9:=hd 0 Pi Pg;have z:=hd 1 Pi Pg;have J:=hd 2 Pi Pg;have h_3:=hd 3 Pi Pg;have p:=hd 4 Pi Pg;have o:=hd 5 Pi Pg;have x:=hd 6 Pi Pg;have B:=hd 8 Pi Pg;simp only[PW,GL]at t9 z J h_3 p o x B;refine P1 (vs.getD 3 VM) fun u_3 hu_3=>?_;rw[hu_3]at h_3;have H_3:=Tn h_3;clear h_3;simp only[aK,Ua,PV];(try rw[t9]);(try rw[z]);(try rw[J]);(try rw[hu_3]);(try rw[p]);(try rw[o]);(try rw[x]);(try rw[B]);refine PG t9 z J p o x B fun Kh_0 Kh_1 Kh_2 Kh_4 Kh_5 Kh_6 Kh_8=>?_;clear t9 z J hu_3 p o x B;have HL:=Tn hl;clear hd hl;have hr:=ai HPQ8 HK0;have HS4:=Tn (abO hr (ag ge) (ag gs));have e4:=Uc w' (D+3) 4 _ _ _ hr;have e5:=Uc w' (D+3) 5 _ _ _ hr;have fz4:=VQ w' (D+3) 4 _ _ hr;have fz5:=VQ w' (D+3) 5 _ _ hr;refine bg fun Post hP=>have HP:=Tn hP;?_;clear hP;unfold aN;go_simp;refine HP.out _ _ ⟨⟨HS4.1,(Uh HK0).trans HS4.2⟩,trivial,TR.go Bt⟩
   case fin=>
    intro vs w' hl hK hd;have hk:=hK;simp only[Up,VJ,PW,Nh]at hk;refine P4 hk.1 hk.2 fun HK0 HK1=>?_;clear hk hK;have Z:=hd 10 Pi;simp only[Up,VJ,Ua,PV,aiE,GL]at Z;simp only[aK,Ua,PV];rw[Z];clear Z;iterate 9 (try generalize vs.getD _ VM=xq)
    clear hd hl;refine P3 HK0.out (aM HPD8 HK1 Ph) (aM HPR8 HK1 Ph) fun HPQ9 HPD9 HPR9=>have HE9:Hid (Fr (fun k=>k=D\/k=D+3) t w'):=Tn (HE8.trans (HK1.mono fun _ _ e=>Or.inr e));?_;obtain⟨W9,hW9⟩:∃W9,W9=w':=⟨_,rfl⟩;subst hW9;go_wp2_with fail;have X0:EX (Lb key id delay m X uq l1 l2 ge gs):=by repeat first|exact Gl|refine EC ?_|refine Gx ?_
    have X1:EX (Od key id delay m X uq l1 l2 ge gs):=X0;refine(WV (n:=0)).1 ?_;refine bu (r:=U8) 6 [3,4] [cT,(false,0,1),(false,0,2),(true,0,0),(true,1,0),(false,2,2)] [Ts 73,Ts 74,Ts 75,U8,U8,Ts 8] Pg Pg Pg [aq W9,Me W9 D key id delay X uq,OB W9 D key id delay m X uq l1 l2 ge gs] (En yk RV (by rintro w w'⟨L,h1,h2⟩hE;exact⟨ai L hE,ai h1 hE,h2.trans (Uh hE)⟩)) [Lb key id delay m X uq l1 l2 ge gs,Od key id delay m X uq l1 l2 ge gs,aiG key id delay m X uq l1 l2 ge gs] (En X0 X1 (X1)) ?k0 ?steps ?fin
    case k0=>exact ap W9
    case steps=>
     refine⟨Bf,Bf,Bf,?_,?_,Bf,trivial⟩
     .intro vs w' hl hK hd;have HK0:Hid (aq W9 w'):=hK;clear hK;have t9:=hd 0 Pi Pg;simp only[List.getD_cons_zero,Lb]at t9;simp only[aK,Ua,PV];(try rw[t9]);have Kh_0:=Tn t9;clear t9;have HL:=Tn hl;clear hd hl;have hr:=ai HPR9 HK0;have S:=Tn (mq hr (Ti Tl id) (ag key) (Ti Tl delay) (zz) (zz) (Tm X 1 uq));refine Pd hr fun e0 am e2 e3 e4 e5=>Pf hr fun fz0 fz1 fz2 fz3 fz4 fz5=>bg fun Post hP=>have HP:=Tn hP;?_;clear hP;unfold aN;go_simp;refine HP.out _ _ ⟨⟨S.1,(Uh HK0).trans S.2⟩,trivial,TR.go Bt⟩
     intro vs w' hl hK hd;have hk:=hK;simp only[PW,Me]at hk;refine P4 hk.1 hk.2 fun HK0 HK1=>?_;clear hk hK;have t9:=hd 0 Pi Pg;have z:=hd 1 Pi Pg;simp only[Ua,PV,Od,Lb]at t9 z;simp only[aK,Ua,PV];(try rw[t9]);(try rw[z]);refine P4 t9 z fun Kh_0 Kh_1=>?_;clear t9 z;have HL:=Tn hl;clear hd hl;have hr:=aM HPQ9 HK1 Ph;have S:=Tn (mq hr (Ti Tl id) (Ti Tl m) (ag l1) (ag l2) (ag ge) (ag gs));refine Pd hr fun e0 am e2 e3 e4 e5=>Pf hr fun fz0 fz1 fz2 fz3 fz4 fz5=>bg fun Post hP=>have HP:=Tn hP;?_;clear hP;unfold aN;go_simp;refine HP.out _ _ ⟨⟨aM HK0 S.2 Ph,S.1,(HK1.mono fun _ _ e=>WQ e).trans (S.2.mono fun _ _ e=>Or.inr e)⟩,trivial,TR.go Bt⟩
    case fin=>
     intro vs w' hl hK hd;have hk:=hK;simp only[Up,VJ,PW,OB]at hk;refine P3 hk.1 hk.2.1 hk.2.2 fun HK0 HK1 HK2=>?_;clear hk hK;have o:=hd 5 Pi;simp only[Up,VJ,Ua,PV,aiG,Od,Lb]at o;simp only[aK,Ua,PV];rw[o];clear o;iterate 3 (try generalize vs.getD _ VM=xq)
     clear hd hl;have HE10:Hid (Fr (fun k=>k=D\/k=D+2\/k=D+3) t w'):=Tn ((HE9.mono fun _ _ e=>e.elim WQ (fun e=>Or.inr (Or.inr e))).trans (HK2.mono fun _ _ e=>Or.inr e));refine Pd HK0 fun q0 q1 q2 q3 q4 q5=>Pd HK1 fun r0 r1 r2 r3 r4 r5=>?_;go_wp2_with fail;rw[R.out.1,R.out.2.1,R.out.2.2.1,R.out.2.2.2];exact VC (v:=UW #[UT #[Ti Tl id,ag key,Ti Tl delay,zz,zz,Tm X 1 uq],UT #[Ti Tl id,Ti Tl m,ag l1,ag l2,ag ge,ag gs],Ti Tl 0]) Xr rfl ⟨_,_,rfl,HE1.trans (HE10.below HE1.size (fun k hk=>by have:=HSD.out;rcases hk with e|e|e<;>omega))⟩
end
end Go.Proofs.YtjmgalpkbkcmkaaGreatDoor

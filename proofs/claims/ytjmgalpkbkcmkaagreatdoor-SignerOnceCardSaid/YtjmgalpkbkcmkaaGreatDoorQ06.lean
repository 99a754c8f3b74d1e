import Derived.Test.YtjmgalpkbkcmkaaGreatDoorQ05
set_option maxRecDepth 100000
set_option maxHeartbeats 16000000
set_option linter.all false
namespace Go.Proofs.YtjmgalpkbkcmkaaGreatDoor
open Go.RowKit Go.Proofs.Tryz Go.Proofs.YtjmgalpkbkcmkaaGreatDoor.Tryz
open _root_.Array renaming getElem?_eq_some_iff->UE,getElem?_eq_getElem->Vy,ext_getElem?->Yc
open Bool renaming or_eq_true->WU,and_assoc->YS,not_eq_true'->Wh,not_eq_false'->YD,or_eq_false_iff->YT
open Go renaming callFunc->Wu,Addr->VW,World->UN,Value->UV,bodyPost_ret->VC,Calls->VB
open Go.Act renaming put->Ua
open Go.Ending renaming returned->UO
open Go.Fn renaming func->ZP
open Go.IntKind renaming u64->Tt,i64->Tl
open Go.IntWalk renaming i64_in->Yo
open Go.Lib renaming hid->Tn
open Go.Obj renaming cells->Tq
open Go.Proofs renaming intOf->VS,enters_of->Vv
open Go.Proofs.Tryz renaming prog->UB
open Go.Value renaming agg->UT,slice->Tm,tuple->UW,int->Ti,pointer->UK
open Go.World renaming cell?_setCell_far->XX,alloc_heap_new->UZ,size_alloc->Ud
open Int renaming toNat_natCast->XU,eq_ofNat_of_zero_le->WL
open List renaming range->We,take_zero->Wk,getElem?_eq_some_iff->UU,all_eq_true->WE,take_succ_cons->Xx,length_map->VR,drop_eq_getElem_cons->WT
open Nat renaming le_refl->UY,zero_le->VF
open Option renaming none->U8,some->Ts
open Option.some renaming inj->Vm
variable {a pa:Option Addr} {b w:World} {cap g k m n pc:Nat} {v:Value}
def aY.left{s t:au}(h:aY w a (s++t)):aY w a s:=fun i x m=>h i x (by rw[List.getElem?_append_left (UU.1 m).1];exact m)
def aY.right{o:Nat}{s t:au}(h:aY w (Ts ⟨g,o,U8⟩) (s++t)):aY w (Ts ⟨g,o+s.length,U8⟩) t:=fun i x m=>by
 obtain⟨b,off,hb,J⟩:=h (s.length+i) x (by rw[List.getElem?_append_right Ph,Nat.add_sub_cancel_left];exact m);cases hb;exact⟨_,_,rfl,RO⟩
def xu{base}{s:nD}(h:w.ownsRow base 5 1 v 16 (Lib.byteCells (eq s))):
  ∃g c,v=Tm (Ts ⟨g,0,U8⟩) 16 c/\16<=c/\c<=9223372036854775807/\aJ w (Tm (Ts ⟨g,0,U8⟩) 8 c) (be 8 s.1)/\aJ w (Tm (Ts ⟨g,8,U8⟩) 8 (c-8)) (be 8 s.2):=by
 rcases dD h with⟨_,L,_⟩|⟨g,c,rfl,_,_,_,J,K⟩
 .cases L
 obtain⟨a,f,b,_,_,hb⟩:=fQ (aT s) h;cases b;have d:c<=9223372036854775807:=K;refine⟨g,c,rfl,J,K,⟨_,c,by rw[aI],RQ,K,hb.left⟩,⟨_,c-8,by rw[aI],RQ,Pr,?_⟩⟩;have:=hb.right;rw[aI]at this;exact this
def zJ(g x j:Nat)(v)(m:au)(w)(hi:g<9223372036854775808)(Z:x<2^64)(hn:j<9223372036854775808)(K:aJ w v m)(p:m.length<=60000000000000):
  VB UB 40 #[UT #[Ti Tl (g:Int),ag x],Ti Tl (j:Int),v] w (bM (ag (io ⟨(g:Int),x⟩ j m)) w):=by
 refine P3 K (lk (fy ia [be 8 x,be 8 g,be 8 j,m])) (mh ia [be 8 x,be 8 g,be 8 j,m]) fun S R y=>have Q:Hid (io ⟨(g:Int),x⟩ j m=1+jh (cj ia [be 8 x,be 8 g,be 8 j,m]) 1152921504606845788):=Tn rfl;have L:jh (cj ia [be 8 x,be 8 g,be 8 j,m]) 1152921504606845788<1152921504606845788:=kX Pi;?_;obtain⟨ma,mc,rfl⟩:=S.out.form;refine P1 (jh (cj ia [be 8 x,be 8 g,be 8 j,m]) 1152921504606845788) fun N M=>?_;rw[M]at Q L;have U:=Tn M;rw[Q.out];refine P1 w.heap.size fun D C=>P1 (w.alloc (Tq #[Ti Tl (g:Int),ag x] 39)) fun f d=>have B:=Tn (show aq w f from Pq);have z0:f.cell? ⟨D,0,U8⟩=Ts (Ti Tl (g:Int)):=Pk;have V:f.cell? ⟨D,1,U8⟩=Ts (ag x):=Pk;?_;go_enter func40,ntmps40;go_upto_region 1 with fail;try rw[d]
 try rw[C]
 go_wp2_with fail;refine(jY (x,g) _ Z (by show g<_;omega)).mono ?_;rintro e w1⟨v1,rfl,r,q⟩;obtain⟨g1,c1,rfl,ab,Y,u,o⟩:=xu r;refine P3 u o (aa B q) fun E z s=>?_;go_wp2_with fail;refine(jY (j,0) _ (by show j<_;omega) Zbv).mono ?_;rintro e O⟨v2,rfl,r,l⟩;obtain⟨g2,c2,rfl,T,X,H,_⟩:=xu r;refine PC H (E.ext l) (z.ext l) (S.ext (aa s l)) (aa s l) fun J t G P F=>have i1:(8:Int)<=(c1:Int):=Ph;have i2:(8:Int)<=(c2:Int):=Ph;have i3:8<=c1:=Ph;have i4:8<=c2:=Ph;have i5:(16:Int)<=(c1:Int):=Ph;have i6:¬c1=8:=Ph;?_;go_wp2_with fail
 first|(go_region_held3 (fun b=>aq O b)
  (first
   |assumption
   |exact P0
   |exact ap _
   |exact af P0 _
   |exact af (ap _) _)
  (first
   |(go_at_call 72;(refine(kB ⟨#[99,111,109,109,105,116]⟩ [be 8 x,be 8 g,be 8 j,m] _ 4 4 _ rfl Pi Pi (by rw[J7,aI,aI,aI];show 17+6+_+_+_+_<=_;omega) (agT (t.ext S7) (G.ext S7) (J.ext S7) (P.ext S7) _)).mono ?_;rintro e W⟨rfl,c⟩;have h3:aq O W:=aa (by first|exact af (ap _) _|exact af P0 _) c))
   |(go_at_call 71;refine(uC (cj ia [be 8 x,be 8 g,be 8 j,m]) 1152921504606845788 (by rw[y.out];exact cd R.1) (by rw[y.out];exact cd R.2) Pi Pi _).mono ?_;rintro e w6⟨rfl,c⟩;rw[U.out];have h4:=aa (A:=O) Zbo c)))|fail
 all_goals
  have I:=Tn (aa F Zbo)
  go_wp2
  go_ret
  exact⟨by rw[gu Ph Ph];rfl,I⟩
section
section
variable {P:Program} {ops:Array Oper} {Q:Exit->Act->UN->Prop} {S S2:UN->Prop}
def AS(P:Program)(ops:Array Oper)(Q:Exit->Act->UN->Prop)(S S2:UN->Prop)(m:Nat)(a:Act):Prop:=
 ∃o v o2 v2,ops[m]?=Ts o/\o.guard=U8/\ops[m+1]?=Ts o2/\o2.guard=U8/\(∀b,S b->ak P o a b (Is v S2))/\
  (∀(T:UN->Prop)b,T b->ak P o2 (a.put o.dst v) b (Is v2 T))/\∀b,S2 b->Q .normal ((a.put o.dst v).put o2.dst v2) b
def BF{m}{o o2:Oper}{a v v2}(d g:Option Tmp)(h1:ops[m]?=Ts o)(c:o.guard=U8)(y:o.dst=d)(l:ops[m+1]?=Ts o2)(j:o2.guard=U8)(f:o2.dst=g)(A:∀b,S b->ak P o a b (Is v S2))(q:∀(T:UN->Prop)b,T b->ak P o2 (a.put d v) b (Is v2 T))(p:∀b,S2 b->Q .normal ((a.put d v).put g v2) b):AS P ops Q S S2 m a:=⟨o,v,o2,v2,h1,c,l,j,A,by rw[y];exact q,by rw[y,f];exact p⟩
def tq{id a}{w:UN}(m f)(K:P.follows .mixedOrders=true)(H:DR ops=true)(B:(ops.all fun o=>o.guard.isNone)=true)(D:ops.size=m+2)(d:((We m).all fun k=>dL ops f m k)=true)(S S2:UN->Prop)(J:S w.drew)(z:eV P ops S (ops.toList.take m) a (AS P ops Q S S2 m)):(Code.region id ops true).wp P Q a w:=by
 have j:m<ops.size:=Ph;have g:m+1<ops.size:=Ph;have F:ops.toList=ops.toList.take m++[ops[m],ops[m+1]]:=by
  have h1:=List.take_append_drop m ops.toList;have c:ops.toList.drop m=[ops[m],ops[m+1]]:=by
   rw[WT (by simpa using j),WT Zbs];rw[List.drop_eq_nil_of_le Pp];simp
  rw[c]at h1;exact h1.symm
 have M:=vA B;refine wpIn_wide (n:=0).1 (ek (r:=U8) K H (Kk m S S2) (.inl ⟨fun h=>h,J⟩) ?_);rw[F];refine qv (f:=f) (F1:=AS P ops Q S S2 m) (fun k N=>WE.1 d k (by simpa using N)) _ 0 a Pp (fun o y=>M o (List.mem_of_mem_take y)) z ?_;rintro a1⟨o,v,o2,v2,y,C,t,s,A,I,O⟩;have G:ops[m]=o:=by rw[Vy j]at y;exact Vm y
 have x:ops[m+1]=o2:=by rw[Vy g]at t;exact Vm t
 rw[G,x];refine bd (v:=v) C (fun L w l q _ _=>?_) (bd (v:=v2) s (fun L w l q _ _=>?_) (iF fun L b p l=>?_))
 .rcases l with⟨_,l⟩|⟨h,_⟩
  .exact Uu
  exact absurd h q
 .rcases l with⟨h,l⟩|⟨h,l⟩
  .refine(I S w l).mono ?_;rintro u b⟨rfl,E⟩;exact⟨rfl,.inl ⟨fun e=>e.elim h (fun e=>Ph),E⟩⟩
  refine(I S2 w l).mono ?_;rintro u b⟨rfl,E⟩;exact⟨rfl,.inr ⟨.inl h,E⟩⟩
 rcases l with⟨h,_⟩|⟨_,h⟩
 .exact absurd (p m j) h
 exact O b h
end
end
def DP(s:bq)(n)(v:UV)(w:UN)(m:s.x<2^64)(h:bY s n≠0):
  VB UB 11 #[eU s,Ti Tl n,v] w (bM (UW #[UT #[Ti Tl 0,ag 0],Ti Tl 1]) w):=by
 unfold eU;have J:s.id<1\/7<s.id\/Rp<=s.x\/n<0\/1099511627776<n:=by
  unfold bY at h;split at h
  .assumption
  exact absurd rfl h
 refine P1 w.heap.size fun D C=>P1 ((w.alloc (Tq #[Ti Tl s.id,ag s.x] 39)).alloc (Tq #[Ti Tl 0,Ti Tt 0] 39)) fun f d=>have B:=Tn (show aq w f from Pz);have z0:f.cell? ⟨D,0,U8⟩=Ts (Ti Tl s.id):=Pk;have y:f.cell? ⟨D,1,U8⟩=Ts (ag s.x):=Pk;?_;have u:f.heap[D+1]?=Ts (Tq #[Ti Tl 0,Ti Tt 0] 39 (0,0)):=by
  rw[<-d,<-C];have:=UZ (w.alloc (Tq #[Ti Tl s.id,ag s.x] 39)) (Tq #[Ti Tl 0,Ti Tt 0] 39);rwa[Ud]at this
 refine PM u fun G am=>PO u fun z g1=>have E:=bz (w:=w) u (by rw[<-C];omega) B (Ti Tl 0) (Ti Tt 0);have j:=Tn E;?_;clear u;go_enter func11,ntmps11;go_upto_region 1 with fail;try rw[d]
 try rw[C]
 clear d C;refine PI f (D+1) (Ti Tl 0) (Ti Tt 0) fun p o=>?_;rw[o]at j;have l:=Tn o;refine PM j.1 fun q0 q1=>P4 q0 q1 fun g b=>?_;clear o;by_cases h1:s.id<1
 .clear J;exact WM
 have F:decide (s.id<1)=false:=by simpa using h1
 by_cases c:7<s.id
 .have r:decide (7<s.id)=true:=by simpa using c
  exact WM
 have r:decide (7<s.id)=false:=by simpa using c
 by_cases A:1152921504606845789<=s.x
 .have t3:decide ((1152921504606845789:Int)<=(s.x:Int))=true:=by simp;omega
  exact WM
 have t3:decide ((1152921504606845789:Int)<=(s.x:Int))=false:=by simp;omega
 by_cases q:n<0
 .have t4:decide (n<0)=true:=by simpa using q
  exact WM
 have t4:decide (n<0)=false:=by simpa using q
 have t:1099511627776<n:=by
  have u:Rp=1152921504606845789:=rfl;omega
 have t5:decide ((1099511627776:Int)<n)=true:=Zdb;exact WM
def EE(o x q:Nat)(v)(m:au)(w)(h1:1<=o)(V:o<=7)(G:x<Rp)(hn:q<=1099511627776)(K:aJ w v m)(p:m.length<=60000000000000):
  VB UB 11 #[UT #[Ti Tl (o:Int),ag x],Ti Tl (q:Int),v] w (bM (UW #[UT #[Ti Tl (o:Int),ag (base (io ⟨(o:Int),x⟩ q m))],Ti Tl 0]) w):=by
 have H:=Tn K;have L:x<1152921504606845789:=G;have r:io ⟨(o:Int),x⟩ q m<2^64:=by
  have:jh (cj ia [be 8 x,be 8 o,be 8 q,m]) 1152921504606845788<1152921504606845788:=kX Pi;have e:io ⟨(o:Int),x⟩ q m=1+jh (cj ia [be 8 x,be 8 o,be 8 q,m]) 1152921504606845788:=rfl;omega
 refine P1 (io ⟨(o:Int),x⟩ q m) fun N A=>have I:=Tn A;?_;rw[A]at r⊢;have z:=Tn r;obtain⟨ma,mc,rfl⟩:=H.out.form;refine P1 w.heap.size fun D C=>P1 ((w.alloc (Tq #[Ti Tl (o:Int),ag x] 39)).alloc (Tq #[Ti Tl 0,Ti Tt 0] 39)) fun f d=>have B:=Tn (show aq w f from Pz);have z0:f.cell? ⟨D,0,U8⟩=Ts (Ti Tl (o:Int)):=Pk;have J:f.cell? ⟨D,1,U8⟩=Ts (ag x):=Pk;?_;have u:f.heap[D+1]?=Ts (Tq #[Ti Tl 0,Ti Tt 0] 39 (0,0)):=by
  rw[<-d,<-C];have:=UZ (w.alloc (Tq #[Ti Tl (o:Int),ag x] 39)) (Tq #[Ti Tl 0,Ti Tt 0] 39);rwa[Ud]at this
 have s:=Tn u;have F:w.heap.size<=D+1:=Ph;go_enter func11,ntmps11;go_upto_region 1 with fail;try rw[d]
 try rw[C]
 have t:=Tn (H.ext B);have R:decide ((o:Int)<1)=false:=Pp;have S:decide ((7:Int)<(o:Int))=false:=Pp;have t3:decide ((1152921504606845789:Int)<=(x:Int))=false:=Pp;have t4:decide ((q:Int)<0)=false:=Pm;have t5:decide ((1099511627776:Int)<(q:Int))=false:=Pp;go_upto_region 3 with fail;refine tq 8 9 Pg Pg Pg rfl Pg (fun b=>aq f b) (fun b=>b.heap[D+1]?=Ts (Tq #[Ti Tl (o:Int),ag (base N)] 39 (0,0))/\aq w b) (ap _) ?_;simp only[Xx,Wk];iterate 8
  (first|refine az rfl rfl rfl rfl ?_|refine aF rfl rfl rfl rfl ?_|refine aw rfl ?_|refine aj rfl rfl rfl rfl rfl ?_|refine dS rfl rfl rfl rfl rfl ?_|((first|refine av (v:=?_) rfl rfl (fun hb b l=>?_) ?_|refine ar (v:=?_) rfl rfl rfl (fun M hb b l=>?_) ?_|refine ax (v:=?_) rfl (fun b l=>?_) ?_);rotate_left;(focus(have f0:=ae z0 l;have P:=ae J l;unfold ak;go_simp;first|exact aD l|(go_at_call 40;refine(zJ o x q _ m _ Ph Ph Ph (t.ext l) p).mono ?_;rintro e y⟨rfl,c⟩;rw[I.out];exact aH (aa l c))|(go_at_call 39;refine P2 (lT N z _) fun y c=>?_;exact aH (aa l c))))))
  simp only[Ua,P7]
 refine BF (v:=undef) (v2:=Ti Tl 0) U8 (Ts 7) rfl rfl rfl rfl rfl rfl (fun b l=>?_) (fun T b O=>?_) (fun b l=>?_)
 .have u:=(l.block (D+1) (UE.1 s).1).trans s;exact PM u fun U am=>PO u fun Q g1=>have E:=bz u F (aa B l) (Ti Tl (o:Int)) (ag (base N));have j:=Tn E;Zcn
 .unfold ak;go_simp;exact⟨rfl,O⟩
 obtain⟨u,g⟩:=l;refine PM u fun q0 q1=>have ys:=Tn g;?_;simp only[Ua,P7];go_wp2;exact VC (v:=UW #[UT #[Ti Tl (o:Int),ag (base N)],Ti Tl 0]) QE rfl ⟨rfl,ys⟩
section
variable {w w':UN} {b:Nat} {c:nt} {msg:au} {cm:List bq} {pa:Option VW} {pc:Nat} {ma:Option VW} {mc:Nat} {ca:Option VW} {cc:Nat}
def Am{n}{l:List bq}{k}{x:bq}(h:l[k]?=Ts x)(last):gD n last (l.drop k)=(decide (last<x.id)&&(decide (x.id<=n)&&(sL x.x&&gD n x.id (l.drop (k+1))))):=by
 obtain⟨o,rfl⟩:=UU.1 h;rw[WT o,gD]
def xz(h:kE w b c msg cm pa pc ma mc ca cc):
  VB UB 54 #[UK (Ts ⟨b,0,U8⟩)] w (bM (Ti Tl (cH c cm)) w):=by
 have H:=Tn h;have z5:=h.c5;have G:=h.cl;have E:=h.cb;refine P1 cm.length fun N K=>?_;rw[K]at G E z5;have B:=Tn K;go_enter func54,ntmps54;go_wp2_with fail;go_step3;go_wp2_with fail;go_step3;go_wp2;go_loopw [3,11] (fun X j wr=>∃(k:Nat)(last:Int),k<=N/\j=Ti Tl k/\X=Ti Tl last/\gD c.n 0 cm=gD c.n last (cm.drop k)/\aq w wr) (fun _ j _=>N-(VS j).toNat)
 case atStart=>exact⟨0,0,VF _,rfl,rfl,rfl,P0⟩
 obtain⟨k,last,o,rfl,rfl,z,P⟩:=hrel;refine P4 z P fun q ys=>?_;by_cases R:k<N
 .obtain⟨x,m⟩:=ay B R;obtain⟨g,off,rfl,I,L,O⟩:=((H.cs).ext ys.out) k x m;have A:=Tn (Am (n:=c.n) m last);go_upto_region 5 with fail;refine P1 wr.heap.size fun D C=>P1 (wr.alloc (Tq #[Ti Tl x.id,Ti Tt (x.x:Int)] 39)) fun u T=>have s:=Tn (show aq w u by rw[<-T];exact af ys _);have F:u.cell? ⟨D,0,U8⟩=Ts (Ti Tl x.id):=Sd;have S:u.cell? ⟨D,1,U8⟩=Ts (ag x.x):=Sd;have Q:=(H.ext s).c1;have M:=Tn F;?_;rw[T,C];refine aZ Pg Pg (fun p=>aq u p) (ap _) ?_;repeat
   (first|refine az rfl rfl rfl rfl ?_|refine aF rfl rfl rfl rfl ?_|refine aw rfl ?_|refine aj rfl rfl rfl rfl rfl ?_|((first|refine av (v:=?_) rfl rfl (fun hb p l=>?_) ?_|refine ar (v:=?_) rfl rfl rfl (fun J hb p l=>?_) ?_|refine ax (v:=?_) rfl (fun p l=>?_) ?_);rotate_left;(focus(have f0:=ae F l;have U:=ae S l;have Y:=ae Q l;unfold ak;go_simp;first|exact aD l|(go_at_call 120;refine(vv x.x O _).mono ?_;rintro e W⟨rfl,V⟩;exact aH (aa l V))))))
   simp only[Ua,P7]
  refine aA fun p d=>have f:=Tn (aa s d);have k0:=ae M d;?_;cases r:(decide (last<x.id)&&decide (x.id<=c.n)&&sL x.x)with
  |true=>
   have y:=Tn (show gD c.n 0 cm=gD c.n x.id (cm.drop (k+1)) by rw[q.out,A.out,<-YS,<-YS,r,Bool.true_and]);go_wp2;go_roundw
   case rel=>exact⟨k+1,x.id,Ph,Pt,rfl,y,f⟩
   case measure=>simp[VS];omega
  |false=>
   have Z:Hid (cH c cm=1):=Tn (by
    unfold cH;rw[q.out,A.out,<-YS,<-YS,r]
    rfl)
   exact UR
 obtain rfl:k=N:=by omega
 rw[List.drop_of_length_le Zak]at q;have z5:=(H.ext ys).c5;have z0:=(H.ext ys).c0;rw[B.out]at z5
 have Z:Hid (cH c cm=if(k:Int)<c.t then 50 else 0):=Tn (by
  unfold cH;rw[q.out,B.out]
  rfl)
 go_wp2_with fail;refine aZ Pg Pg (fun p=>aq wr p) (ap _) ?_;repeat
  (first|refine az rfl rfl rfl rfl ?_|refine aF rfl rfl rfl rfl ?_|refine aw rfl ?_|refine aj rfl rfl rfl rfl rfl ?_|((first|refine av (v:=?_) rfl rfl (fun hb p l=>?_) ?_|refine ar (v:=?_) rfl rfl rfl (fun J hb p l=>?_) ?_|refine ax (v:=?_) rfl (fun p l=>?_) ?_);rotate_left;(focus(have f0:=ae z5 l;have U:=ae z0 l;unfold ak;go_simp;first|exact aD l))))
  simp only[Ua,P7]
 refine aA fun p d=>have f:=Tn (aa ys d);?_;by_cases r:(k:Int)<c.t
 .rw[if_pos r]at Z;exact UR
 rw[if_neg r]at Z;exact UR
def Lc(p:bq)(h:kE w b c msg cm pa pc ma mc ca cc)(hp:p.x<2^64)(T:∀k,LO cm p.id=Ts k->1<=p.id/\p.id<=c.parts.length):
  VB UB 56 #[UK (Ts ⟨b,0,U8⟩),eU p] w (bM (Ti Tl (ajW c msg cm p)) w):=by
 refine P1 w.heap.size fun D C=>P1 (w.alloc (Tq #[Ti Tl p.id,ag p.x] 39)) fun f d=>have B:=Tn (show aq w f from Pq);have z0:f.cell? ⟨D,0,U8⟩=Ts (Ti Tl p.id):=Pk;have O:f.cell? ⟨D,1,U8⟩=Ts (ag p.x):=Pk;P4 (h.ext B) T fun H HID=>?_;unfold eU;go_enter func56,ntmps56;go_upto_region 1 with fail;try rw[d]
 try rw[C]
 refine P4 z0 O fun HZ0 HZ1=>?_;go_wp2_with fail;refine P2 (LQ p.id H) fun w1 q=>P4 (aa B q) (H.ext q) fun s ac=>have k0:=ae HZ0 q;have k1:=ae HZ1 q;?_;cases j:LO cm p.id with
 |none=>
  refine P4 (show ajW c msg cm p=1 by unfold ajW;rw[j]) (show ac0 cm p.id=⟨0,0⟩ by unfold ac0;rw[j];rfl) fun Z HV=>?_;rw[HV.out];unfold eU;go_wp2;go_ret;exact⟨Ps,af s _⟩
 |some k=>
  have m:=HID.out k j;have hi1:=m.1;have hi2:=m.2;refine P4 (show ac0 cm p.id=k by unfold ac0;rw[j];rfl) (List.mem_of_find?_eq_some j) fun HV HK=>?_;rw[HV.out];unfold eU;go_upto_region 2 with fail;refine P1 w1.heap.size fun E hE=>P1 (w1.alloc (Tq #[Ti Tl k.id,Ti Tt (k.x:Int)] 39)) fun I Y=>P4 (show aq w I by rw[<-Y];exact af s _) (show aq w1 I from QQ) fun F t=>?_;have y1:I.cell? ⟨E,1,U8⟩=Ts (ag k.x):=by rw[<-Y,<-hE];simp[go_sem]
  have z0:=ae k0 t;have O:=ae k1 t;rw[Y,hE];by_cases u:1152921504606845789<=p.x
  .have Z:=Tn (show ajW c msg cm p=1 by unfold ajW;rw[j];exact if_pos u);have t1:decide ((1152921504606845789:Int)<=(p.x:Int))=true:=Pp;exact U4
  have t1:decide ((1152921504606845789:Int)<=(p.x:Int))=false:=by simp;omega
  have Z:=Tn (show ajW c msg cm p=if base p.x=pC k.x (ii Qp ((c.parts.getD (p.id.toNat-1) ⟨0,0⟩).x) (iW c msg cm p.id))then 0 else 60 by unfold ajW;rw[j];exact if_neg u);have S:=ac.out.pb;refine P1 (p.id.toNat-1) fun i hi=>have P:p.id-1=(i:Int):=Ph;have z:i<c.parts.length:=Ph;?_;obtain⟨y,U⟩:=ay (l:=c.parts) rfl z;rw[hi,show c.parts.getD i ⟨0,0⟩=y by rw[List.getD_eq_getElem?_getD,U];rfl]at Z;have r:=Tn (ac.ext t);obtain⟨g,off,hpa,hc0,ab,X⟩:=r.out.ps i y U;have y3:=r.out.c3;subst hpa;refine P1 c.parts.length fun N hN=>?_;rw[hN]at y3 z S;have Q:=r.out.pl;have hpm:=r.out.pm;rw[hN]at Q;have HII:=Tn P;have V:Tl.wrap (i:Int)=(i:Int):=Yo _ Ph;refine P4 V (sV H.cs k HK) fun HW1 HKB=>?_;go_wp2_with fail;have k9:=HII.out;have k8:=HW1.out;refine aZ Pg Pg (fun W=>aq I W) (ap _) ?_;repeat
   (first|refine az rfl rfl rfl rfl ?_|refine aF rfl rfl rfl rfl ?_|refine aw rfl ?_|refine aj rfl rfl rfl rfl rfl ?_|((first|refine av (v:=?_) rfl rfl (fun hb W o=>?_) ?_|refine ar (v:=?_) rfl rfl rfl (fun hb1 hb W o=>?_) ?_|refine ax (v:=?_) rfl (fun W o=>?_) ?_);rotate_left;(focus(have f0:=ae z0 o;have f1:=ae O o;have f2:=ae y1 o;have f3:=ae y3 o;have f4:=ae ab o;unfold ak;go_simp;first|exact aD o|(go_at_call 39;refine(lT p.x hp _).mono ?_;rintro e G⟨rfl,A⟩;exact aH (aa o A))|(go_at_call 114;refine P2 (vR p.id (r.ext o)) fun G A=>?_;exact aH (aa o A))|(go_at_call 109;refine P2 (oT y.x _ X (ip (wI _ _ _ _)) _) fun G A=>?_;exact aH (aa o A))|(go_at_call 121;refine P2 (rQ k.x _ HKB (zc (rS Pi _ _)) _) fun G A=>?_;exact aH (aa o A))))))
   simp only[Ua,P7]
  refine aA fun W R=>have J:=Tn (aa F R);P1 (base p.x) fun L hL=>P1 (pC k.x (ii Qp y.x (iW c msg cm p.id))) fun M hM=>?_;rw[hL,hM]at Z⊢;by_cases K:L=M
  .rw[if_pos K]at Z;have zs:((L:Int) !=(M:Int))=false:=by simp[K]
   exact Zfk
  rw[if_neg K]at Z;have zs:((L:Int) !=(M:Int))=true:=Pp;exact Zfk
end
def pB(c:nt)(pa:Option VW)(pc:Nat):UV:=UT #[Ti Tl c.t,Ti Tl c.n,ag c.key,Tm pa c.parts.length pc]
structure mC(w:UN)(c:nt)(pa:Option VW)(pc:Nat):Prop where
 key:c.key<2^64
 pl:c.parts.length<=pc
 pm:pc<=9223372036854775807
 pb:c.parts.length<=1000000
 ps:cr 2 eF w pa c.parts
def mC.ext{c}(h:mC w c pa pc)(g:aq w b):mC b c pa pc:=⟨h.key,h.pl,h.pm,h.pb,h.ps.ext g⟩
def N9(first:List bq)(a n cap t)(s:bq)(W)(hb:Boxed W t 31 (Tm a n cap))(p:first.length=n)(o:n<=cap)(hn:n<=1000000000)(h:cr 2 eF W a first)(m:s.x<2^64):
  VB UB 185 #[eU s,UK (Ts ⟨t,0,U8⟩)] W (bM (ag (ii Qp s.x (eS (bS first) s.id))) W):=by
 refine P4 hb p fun z A=>P1 W.heap.size fun D C=>P1 (W.alloc (Tq #[Ti Tl s.id,ag s.x] 39)) fun f d=>have B:=Tn (show aq W f from Pq);have z0:f.cell? ⟨D,0,U8⟩=Ts (Ti Tl s.id):=Pk;have u:f.cell? ⟨D,1,U8⟩=Ts (ag s.x):=Pk;have r:=(aC B z).cell;have H:=Tn (h.ext B);?_;unfold eU;go_enter func185,ntmps185;go_upto_region 1 with fail;try rw[d]
 try rw[C]
 refine aZ Pg Pg (fun b=>aq f b) (ap _) ?_;repeat
  (first|refine az rfl rfl rfl rfl ?_|refine aF rfl rfl rfl rfl ?_|refine aw rfl ?_|refine aj rfl rfl rfl rfl rfl ?_|((first|refine av (v:=?_) rfl rfl (fun hb b l=>?_) ?_|refine ar (v:=?_) rfl rfl rfl (fun y hb b l=>?_) ?_|refine ax (v:=?_) rfl (fun b l=>?_) ?_);rotate_left;(focus(have f0:=ae z0 l;have E:=ae u l;have F:=ae r l;unfold ak;go_simp;first|exact aD l|(go_at_call 180;refine(ud first a _ cap s.id _ A o hn (H.ext l)).mono ?_;rintro e q⟨rfl,c⟩;exact aH (aa l c))|(go_at_call 109;refine P2 (oT s.x _ m (ip (vX _ _)) _) fun q c=>?_;exact aH (aa l c))))))
  simp only[Ua,P7]
 refine aA fun b g=>have j:=Tn (aa B g);?_;go_wp2;go_ret;exact⟨rfl,j⟩
def abJ{first:List bq}{b}(hb:Boxed w b 31 (Tm a n cap))(p:first.length=n)(c:n<=cap)(hn:n<=1000000000)(h:cr 2 eF w a first):
  BI 185 #[UK (Ts ⟨b,0,U8⟩)] w first (fun s=>ii Qp s.x (eS (bS first) s.id)) where
 enters:=Vv func185 Pg rfl
 does:=fun s z W g=>N9 first a n cap b s W (aC g hb) p c hn (h.ext g) (sV h s z)
 small:=fun s z=>zc (rS Pi _ _)
def Af(c:nt):Bool:=decide (c.t<1)||decide (c.n<c.t)||decide (7<c.n)||((c.parts.length:Int) !=c.n)|| !(sL c.key)
def BR{c}(h:Af c=true):dC c=1:=by
 unfold dC;rw[if_pos];unfold Af at h;simp only[WU,decide_eq_true_eq,bne_iff_ne,Wh]at h;rcases h with(((h|h)|h)|h)|h
 .exact .inl h
 .exact .inr (.inl h)
 .exact .inr (.inr (.inl h))
 .exact .inr (.inr (.inr (.inl h)))
 exact .inr (.inr (.inr (.inr h)))
def vM{c}(h:Af c=false):1<=c.t/\c.t<=c.n/\c.n<=7/\(c.parts.length:Int)=c.n/\sL c.key=true:=by
 unfold Af at h;simp only[YT,decide_eq_false_iff_not,bne_eq_false_iff_eq,YD]at h;exact⟨Ph,Ph,Ph,h.1.2,h.2⟩
def DY{c}(h:Af c=false):dC c=if fG 0 c.parts=false then 1 else
 if eN c.t c.parts≠0 then eN c.t c.parts else
 if kG (c.parts.take c.t.toNat) (fun p=>ii Qp p.x (eS (bS (c.parts.take c.t.toNat)) p.id))=c.key then 0 else 60:=by
 have:=vM h;unfold dC;rw[if_neg];rintro(h|h|h|h|h)
 .omega
 .omega
 .omega
 .omega
 rw[this.2.2.2.2]at h;cases h
def xQ{l:List bq}{x:bq}(h:l[k]?=Ts x):fG k (l.drop k)=(decide (x.id=(k:Int)+1)&&(sL x.x&&fG (k+1) (l.drop (k+1)))):=by
 obtain⟨o,rfl⟩:=UU.1 h;rw[WT o,fG]
def cr.form{α:Type}{R:pD α}{l:List α}(h:cr m R w a l)(p:0<l.length):∃b off,a=Ts ⟨b,off,U8⟩:=by
 obtain⟨x,c⟩:=ay rfl p;obtain⟨b,off,hb,_⟩:=h 0 x c;exact⟨b,off,hb⟩
def Nc(c pa pc w)(h:mC w c pa pc):
  VB UB 119 #[pB c pa pc] w (bM (Ti Tl (dC c)) w):=by
 refine P1 c.parts.length fun N hN=>?_;unfold pB;have hpl:=h.pl;have hpm:=h.pm;have hpb:=h.pb;rw[hN]at hpl hpb⊢;refine P1 w.heap.size fun D C=>P1 (w.alloc (Tq #[Ti Tl c.t,Ti Tl c.n,ag c.key,Tm pa N pc] 33)) fun f d=>have B:=Tn (show aq w f from Pq);have z0:f.cell? ⟨D,0,U8⟩=Ts (Ti Tl c.t):=Pk;have z1:f.cell? ⟨D,1,U8⟩=Ts (Ti Tl c.n):=Pk;have z2:f.cell? ⟨D,2,U8⟩=Ts (ag c.key):=Pk;have z3:f.cell? ⟨D,3,U8⟩=Ts (Tm pa N pc):=Pk;P4 (h.ext B) hN fun H O=>?_;go_enter func119,ntmps119;go_upto_region 1 with fail;try rw[d]
 try rw[C]
 refine aG (fun b=>aq f b) P0 ?_;repeat
  (first|refine az rfl rfl rfl rfl ?_|refine aF rfl rfl rfl rfl ?_|refine aw rfl ?_|refine aj rfl rfl rfl rfl rfl ?_|((first|refine av (v:=?_) rfl rfl (fun hb b l=>?_) ?_|refine ar (v:=?_) rfl rfl rfl (fun hb1 hb b l=>?_) ?_|refine ax (v:=?_) rfl (fun b l=>?_) ?_);rotate_left;(focus(have f0:=ae z0 l;have f1:=ae z1 l;have f2:=ae z2 l;have f3:=ae z3 l;unfold ak;go_simp;first|exact aD l|(go_at_call 120;refine(vv c.key H.key _).mono ?_;rintro e ac⟨rfl,h2⟩;exact aH (aa l h2))))))
  simp only[Ua,P7]
 refine aA fun b q=>P4 (aa B q) (H.ext q) fun K H1=>have P:=ae z0 q;have y1:=ae z1 q;have y2:=ae z2 q;have W:=ae z3 q;?_;cases r:(decide (c.t<1)||decide (c.n<c.t)||decide ((7:Int)<c.n)||((N:Int) !=c.n)|| !sL c.key)with
 |true=>
  have Z:=Tn (BR (c:=c) (by unfold Af;rw[O.out];exact r));go_wp2;go_ret;exact⟨Ps,K⟩
 |false=>
  have Q:Af c=false:=by unfold Af;rw[O.out];exact r
  have G:=Tn (DY Q);obtain⟨g1,g2,g3,g4,g5⟩:=vM Q;rw[O.out]at g4;obtain⟨u,U⟩:=WL (show 0<=c.t from Ph);have htN:u<=N:=Ph;have ht0:0<u:=Ph;have HT:=Tn U;rw[U]at P G;rw[XU]at G;obtain⟨g,off,hpa⟩:=H1.out.ps.form (by rw[O.out];omega);subst hpa;refine P1 (c.parts.take u) fun first A=>?_;rw[A]at G;have HFL:Hid (first.length=u):=Tn (by rw[<-A,List.length_take,O.out];omega);have HSF:Hid (cr 2 eF b (Ts ⟨g,off,U8⟩) first):=Tn (by rw[<-A];exact H1.out.ps.take u);refine P3 P y2 W fun HY0 HY2 HY3=>?_;go_wp2;go_loopw [39] (fun j wr=>∃k:Nat,k<=N/\j=Ti Tl k/\fG 0 c.parts=fG k (c.parts.drop k)/\aq b wr) (fun j _=>N-(VS j).toNat)
  case atStart=>exact⟨0,VF _,rfl,rfl,P0⟩
  obtain⟨k,o,rfl,al,y⟩:=hrel;refine P4 al y fun S ys=>?_;by_cases hlt:k<N
  .obtain⟨x,m⟩:=ay O hlt;obtain⟨g',off',L,hc0,hc1,hxb⟩:=((H1.ps).ext ys.out) k x m;cases L;have HST:=Tn (xQ m);go_upto_region 6 with fail;refine P1 wr.heap.size fun E y=>P1 (wr.alloc (Tq #[Ti Tl x.id,Ti Tt (x.x:Int)] 39)) fun X T=>have F:=Tn (show aq b X by rw[<-T];exact af ys _);?_;have x0:X.cell? ⟨E,0,U8⟩=Ts (Ti Tl x.id):=by rw[<-T,<-y];simp[go_sem]
   have x1:X.cell? ⟨E,1,U8⟩=Ts (ag x.x):=by rw[<-T,<-y];simp[go_sem]
   rw[T,y];have k9:Tl.wrap ((k:Int)+1)=(k:Int)+1:=Yo _ Ph;refine aG (fun b=>aq X b) P0 ?_;repeat
    (first|refine az rfl rfl rfl rfl ?_|refine aF rfl rfl rfl rfl ?_|refine aw rfl ?_|refine aj rfl rfl rfl rfl rfl ?_|((first|refine av (v:=?_) rfl rfl (fun hb b l=>?_) ?_|refine ar (v:=?_) rfl rfl rfl (fun hb1 hb b l=>?_) ?_|refine ax (v:=?_) rfl (fun b l=>?_) ?_);rotate_left;(focus(have f0:=ae x0 l;have f1:=ae x1 l;unfold ak;go_simp;first|exact aD l|(go_at_call 120;refine(vv x.x hxb _).mono ?_;rintro e ac⟨rfl,h2⟩;exact aH (aa l h2))))))
    simp only[Ua,P7]
   refine aA fun w3 q=>have z:=Tn (aa F q);?_;(try rw[k9]);cases r:((x.id !=(k:Int)+1)|| !sL x.x)with
   |false=>
    have HNU2:=Tn (show fG 0 c.parts=fG (k+1) (c.parts.drop (k+1)) by
     rw[S.out,HST.out];simp only[YT,bne_eq_false_iff_eq,YD]at r;rw[r.2,decide_eq_true r.1]
     rfl)
    go_wp2;go_roundw
    case rel=>exact⟨k+1,Ph,Pt,HNU2,z⟩
    case measure=>simp[VS];omega
   |true=>
    have Z:Hid (dC c=1):=Tn (by
     rw[G.out,if_pos];rw[S.out,HST.out];simp only[WU,bne_iff_ne,Wh]at r;rcases r with h|h
     .rw[decide_eq_false h];rfl
     rw[h,Bool.false_and,Bool.and_false])
    go_wp2;go_ret;exact⟨Ps,aa K z⟩
  obtain rfl:k=N:=by omega
  have p:=G;rw[S.out,List.drop_of_length_le (by rw[O.out];exact UY _),fG,if_neg Pm]at p;have P:=ae HY0 ys;have W:=ae HY3 ys;go_wp2_with fail;refine P2 (Np (u:Int) c.parts _ k pc _ O hpl hpm Ph (H1.ps.ext ys)) fun w3 V=>have Id:=Tn (aa ys V);P1 (eN (u:Int) c.parts) fun R hR=>?_;rw[hR]at p⊢;by_cases ah:R=0
  .subst ah;rw[if_neg Pm]at p;have P:=ae HY0 Id;have W:=ae HY3 Id;have Y:u<=pc:=Ph;refine P1 w3.heap.size fun E y=>P1 (w3.alloc (Tq #[Tm (Ts ⟨g,off,U8⟩) u pc] 31)) fun W4 I=>have M:=Tn (show aq b W4 by rw[<-I];exact af Id _);have ab:Hid (Boxed W4 E 31 (Tm (Ts ⟨g,off,U8⟩) u pc)):=Tn (by rw[<-I,<-y];exact Boxed.new _ _ _);have y2:=ae HY2 M;have b0:=ab.out.cell;?_;go_upto_region 13 with fail;(try rw[y]);(try rw[I]);have HF:=abJ ab HFL Y Ph (HSF.ext M);have ad:=Tn (yS first (fun s=>ii Qp s.x (eS (bS first) s.id)));obtain⟨gg,L⟩:∃gg:bq->Nat,(fun s=>ii Qp s.x (eS (bS first) s.id))=gg:=⟨_,rfl⟩;rw[L]at HF p ad;have HFF:=Tn HF;refine aZ Pg Pg (fun b=>aq W4 b) (ap _) ?_;repeat
    (first|refine az rfl rfl rfl rfl ?_|refine aF rfl rfl rfl rfl ?_|refine aw rfl ?_|refine aj rfl rfl rfl rfl rfl ?_|((first|refine av (v:=?_) rfl rfl (fun hb b l=>?_) ?_|refine ar (v:=?_) rfl rfl rfl (fun hb1 hb b l=>?_) ?_|refine ax (v:=?_) rfl (fun b l=>?_) ?_);rotate_left;(focus(have f0:=ae b0 l;have f1:=ae y2 l;unfold ak;go_simp;first|exact aD l|(go_at_call 184;refine(tx 185 _ first gg _ u pc _ (HFF.ext l) HFL Y Ph (HSF.ext (aa M l))).mono ?_;rintro e ac⟨rfl,h2⟩;exact aH (aa l h2))))))
    simp only[Ua,P7]
   refine aA fun w5 q=>have z:=Tn (aa K (aa M q));P1 (kG first gg) fun J hJ=>?_;rw[hJ]at p⊢;by_cases r:J=c.key
   .rw[if_pos r]at p;have zs:((J:Int) !=(c.key:Int))=false:=by simp[r]
    exact Zfe
   rw[if_neg r]at p;have zs:((J:Int) !=(c.key:Int))=true:=Pp;exact Zfe
  rw[if_pos ah]at p;go_wp2;go_ret;exact⟨by rw[p.out];rfl,aa K Id⟩
section
def nQ(s:bq)(n v)(m:au)(w)(g:s.x<2^64)(K:aJ w v m)(p:m.length<=60000000000000):
  VB UB 11 #[eU s,Ti Tl n,v] w (bM (UW #[eU (cE s n m),Ti Tl (bY s n)]) w):=by
 have b:bY s n=0\/bY s n=1:=by unfold bY;split<;>simp
 rcases b with h|h
 .have J:1<=s.id/\s.id<=7/\s.x<Rp/\0<=n/\n<=1099511627776:=by
   unfold bY at h;split at h
   .cases h
   omega
  obtain⟨i,x⟩:=s;obtain⟨d,rfl⟩:=WL (show 0<=i from by have:=J.1;simp only at this;omega);obtain⟨f,rfl⟩:=WL J.2.2.2.1;have e:cE ⟨(d:Int),x⟩ (f:Int) m=⟨(d:Int),base (io ⟨(d:Int),x⟩ f m)⟩:=by
   unfold cE;rw[if_pos h,XU]
  rw[h,e];have h1:=J.1;have c:=J.2.1;have A:=J.2.2.2.2;simp only at h1 c;exact EE d x f v m w Ph Ph J.2.2.1 Ph K p
 have e:cE s n m=⟨0,0⟩:=by unfold cE;rw[if_neg Rf]
 rw[h,e];exact DP s n v w g Rf
def fe:List Int->Int
 |[]=>0
 |e::l=>if e≠0 then e else fe l
def B6{l:List Int}{k}{e:Int}(h:l[k]?=Ts e):fe (l.drop k)=if e≠0 then e else fe (l.drop (k+1)):=by
 obtain⟨o,rfl⟩:=UU.1 h;rw[WT o,fe]
structure IJ(f:UV)(e:Int)(Q Q':UN->Prop):Prop where
 is:∃(F:FuncId)(bnd caps:Array UV),f= .func (.func F) bnd caps/\(∀args w,(Wu F args).run UB w= .ok (.enter F args) w)/\
  ∀W,Q W->VB UB F (bnd++caps) W (fun r W'=>r=UO (Ti Tl e)/\Q' W')
def acF(b:List Int)(n:Nat)(Q:Nat->UN->Prop)(r:Ending)(W:UN):Prop:=r=UO (Ti Tl (fe b))/\∃k,k<=n/\Q k W/\(fe b=0->k=n)
def IH(I:List UV)(c:List Int)(n b off cap:Nat)(Q:Nat->UN->Prop)(w:UN)(hn:c.length=n)(hb:n<=1000)(O:n<=cap)(cf:∀k f e,I[k]?=Ts f->c[k]?=Ts e->(∀i x,i<k->c[i]?=Ts x->x=0)->IJ f e (Q k) (Q (k+1)))(J:∀k W,k<=n->Q k W->∀i,i<n->∃f,I[i]?=Ts f/\W.cell? ⟨b,off+i,U8⟩=Ts f)(L:Q 0 w):VB UB 52 #[Tm (Ts ⟨b,off,U8⟩) n cap] w (acF c n Q):=by
 refine P5 hn cf J L fun M X V T=>?_;go_enter func52,ntmps52;go_wp2;go_loopw [8] (fun j wr=>∃k:Nat,k<=n/\j=Ti Tl k/\fe c=fe (c.drop k)/\Q k wr/\(∀i x,i<k->c[i]?=Ts x->x=0)) (fun j _=>n-(VS j).toNat)
 case atStart=>exact⟨0,VF _,rfl,rfl,T,fun i x hi=>absurd hi (Nat.not_lt_zero _)⟩
 obtain⟨k,o,rfl,A,N,t⟩:=hrel;refine P3 A N t fun g E p=>?_;by_cases R:k<n
 .obtain⟨e,B⟩:=ay M R;obtain⟨f,u,G⟩:=V.out k wr o E k R;obtain⟨F,U,K,rfl,P,d⟩:=(X k f e u B p).is;refine P3 d (B6 B) B fun S y C=>?_;go_wp2_with fail;refine(S wr E).mono ?_;rintro r Y⟨rfl,q⟩;have z:=Tn q;by_cases l:e=0
  .subst l;have s:=Tn (show fe c=fe (c.drop (k+1)) by rw[g.out,y.out,if_neg Pi])
   have H:Hid (∀i x,i<k+1->c[i]?=Ts x->x=0):=Tn (fun i x hi m=>by
    by_cases h:i<k
    .exact p.out i x h m
    obtain rfl:i=k:=by omega
    exact(Vm (C.symm.trans m)).symm)
   go_wp2;go_roundw
   case rel=>exact⟨k+1,Ph,Pt,s,z,H⟩
   case measure=>simp[VS];omega
  have Z:=Tn (show fe c=e by rw[g.out,y.out,if_pos l]);have D:=Tn l;go_wp2_with fail;(try rw[Exit.noGoto_ret]);go_ret;exact⟨Ps,k+1,Ph,z,fun h=>absurd (Z.symm.trans h) D⟩
 obtain rfl:k=n:=by omega
 rw[List.drop_of_length_le (by rw[M.out];exact UY _),fe]at g;go_wp2;go_ret;exact⟨by rw[g.out];rfl,k,UY _,E,fun _=>rfl⟩
variable {w w':UN} {b:Nat} {c:nt} {msg:au} {cm:List bq} {pa:Option VW} {pc:Nat} {ma:Option VW} {mc:Nat} {ca:Option VW} {cc:Nat}
def kE.crw(h:kE w b c msg cm pa pc ma mc ca cc):mC w c pa pc:=⟨h.key,h.pl,h.pm,h.pb,h.ps⟩
def BE(h:kE w b c msg cm pa pc ma mc ca cc):
  VB UB 53 #[UK (Ts ⟨b,0,U8⟩)] w (bM (Ti Tl (dC c)) w):=by
 have H:=Tn h.crw;have z0:=h.c0;have g:=h.c1;have f:=h.c2;have z3:=h.c3;go_enter func53,ntmps53;go_wp2_with fail;exact P2 (Nc c pa pc w H) fun d D=>Zcr
def ac9(w:UN)(ob:Nat)(s:bq)(e:Int)(r:Ending)(W:UN):Prop:=r=UO (Ti Tl e)/\∃I,aq w I/\W=(I.setCell ⟨ob,0,U8⟩ (Ti Tl s.id)).setCell ⟨ob,1,U8⟩ (ag s.x)
def KP(s:bq)(n v)(m:au)(c f d ob:Nat)(w)(l:s.x<2^64)(K:aJ w v m)(p:m.length<=60000000000000)(s0:w.cell? ⟨c,0,U8⟩=Ts (Ti Tl s.id))(s1:w.cell? ⟨c,1,U8⟩=Ts (ag s.x))(n0:w.cell? ⟨f,0,U8⟩=Ts (Ti Tl n))(q:w.cell? ⟨d,0,U8⟩=Ts v)(u:w.heap[ob]?=Ts (Tq #[Ti Tl 0,Ti Tt 0] 39 (0,0))):
  VB UB 112 #[UK (Ts ⟨c,0,U8⟩),UK (Ts ⟨f,0,U8⟩),UK (Ts ⟨d,0,U8⟩),UK (Ts ⟨ob,0,U8⟩)] w (ac9 w ob (cE s n m) (bY s n)):=by
 refine P4 K u fun r Z=>P1 (cE s n m) fun k o=>P1 (bY s n) fun E g=>?_;rw[o,g];refine P4 o g fun j ys=>?_;go_enter func112,ntmps112;go_wp2_with fail;refine P2 (nQ s n v m w l r p) fun b D=>have F:=Tn D;have u:=(D.block ob (UE.1 Z).1).trans Z;PM u fun y am=>PO u fun t g1=>?_;rw[j.out,ys.out];unfold eU;go_wp2;go_ret;exact⟨rfl,b,F,rfl⟩
structure ou(W1:UN)(O FB:Nat)(f0 f1 f2:UV)(own:bq)(k:Nat)(W:UN):Prop where
 ext:aq W1 W
 own:W.heap[O]?=Ts (Tq (if 2<=k then#[Ti Tl own.id,ag own.x]else#[Ti Tl 0,Ti Tt 0]) 39 (0,0))
 q0:W.cell? ⟨FB,0,U8⟩=Ts f0
 q1:W.cell? ⟨FB,1,U8⟩=Ts f1
 q2:W.cell? ⟨FB,2,U8⟩=Ts f2
def ou.on{t W f O b f0 d c own k}(h:ou t O b f0 d c own k W)(g:aq W f):ou t O b f0 d c own k f:=
 ⟨aa h.ext g,(g.block O (UE.1 h.own).1).trans h.own,ae h.q0 g,ae h.q1 g,ae h.q2 g⟩
def ou.far{t I:UN}{O b f0 g d own}(h:ou t O b f0 g d own 1 I)(j:t.heap.size<=O)(zs:b≠O):
  ou t O b f0 g d own 2 ((I.setCell ⟨O,0,U8⟩ (Ti Tl own.id)).setCell ⟨O,1,U8⟩ (ag own.x)):=by
 have u:=h.own;rw[if_neg Pi]at u;have z:=bz u j h.ext (Ti Tl own.id) (ag own.x);have c:∀i f,I.cell? ⟨b,i,U8⟩=Ts f->((I.setCell ⟨O,0,U8⟩ (Ti Tl own.id)).setCell ⟨O,1,U8⟩ (ag own.x)).cell? ⟨b,i,U8⟩=Ts f:=fun i f cf=>by
  rw[XX _ _ _ _ (fun h:O=b=>zs h.symm),XX _ _ _ _ (fun h:O=b=>zs h.symm)];exact cf
 exact⟨z.2,by rw[if_pos Pi];exact z.1,c _ _ h.q0,c _ _ h.q1,c _ _ h.q2⟩
def Em(c:nt)(s:bq)(n:Int)(cm:List bq):Int:=fe [dC c,bY s n,cH c cm]
def LI(c s n)(msg:au)(l):pQ c s n msg l=if Em c s n l≠0 then Em c s n l else if LO l s.id=Ts (cE s n msg)then 0 else 60:=by
 unfold pQ Em;simp only[fe];by_cases h1:dC c=0<;>by_cases b:bY s n=0<;>by_cases A:cH c l=0<;>simp[h1,b,A]
def KO{c s n cm}(h:Em c s n cm=0):bY s n=0:=by
 unfold Em at h;simp only[fe]at h;by_cases h1:dC c=0<;>by_cases b:bY s n=0<;>simp[h1,b]at h<;>exact b
def Ab{s n}(h:bY s n=0):1<=s.id/\s.id<=7/\s.x<Rp/\0<=n/\n<=1099511627776:=by
 unfold bY at h;split at h
 .cases h
 omega
def Lr(s n)(m:au):io s n m<2^64:=by
 have:jh (cj ia [be 8 s.x,be 8 s.id.toNat,be 8 n,m]) 1152921504606845788<1152921504606845788:=kX Pi;have e:io s n m=1+jh (cj ia [be 8 s.x,be 8 s.id.toNat,be 8 n,m]) 1152921504606845788:=rfl;omega
def acR(s:bq)(n:Int)(v)(m:au)(w)(h:1<=s.id/\s.id<=7/\s.x<Rp/\0<=n/\n<=1099511627776)(K:aJ w v m)(p:m.length<=60000000000000):
  VB UB 40 #[UT #[Ti Tl s.id,ag s.x],Ti Tl n,v] w (bM (ag (io s n.toNat m)) w):=by
 obtain⟨i,x⟩:=s;obtain⟨h1,c,A,f,g⟩:=h;simp only at h1 c A;obtain⟨b,rfl⟩:=WL (show 0<=i from Ph);obtain⟨d,rfl⟩:=WL f;exact zJ b x d v m w Ph (ip A) Ph K p
def iS{F}{c b:Array UV}{e:Int}{Q d:UN->Prop}(h:∀args w,(Wu F args).run UB w= .ok (.enter F args) w)(y:∀W,Q W->VB UB F (c++b) W (fun r f=>r=UO (Ti Tl e)/\d f)):IJ (.func (.func F) c b) e Q d:=⟨⟨F,c,b,rfl,h,y⟩⟩
def IK:∀args w,(Wu 53 args).run UB w= .ok (.enter 53 args) w:=Vv func53 Pg rfl
def yF:∀args w,(Wu 54 args).run UB w= .ok (.enter 54 args) w:=Vv func54 Pg rfl
def LU:∀args w,(Wu 112 args).run UB w= .ok (.enter 112 args) w:=Vv func112 Pg rfl
def Oc(s:bq)(n w)(h:mC w c pa pc)(m:s.x<2^64)(K:aJ w (Tm ma msg.length mc) msg)(hml:msg.length<=1000000)(hcl:cm.length<=cc)(hcx:cc<=9223372036854775807)(hcb:cm.length<=1000000)(hcs:cr 2 eF w ca cm):
  VB UB 44 #[pB c pa pc,eU s,Ti Tl n,Tm ma msg.length mc,Tm ca cm.length cc] w (bM (UW #[eU (jG c s n msg cm),Ti Tl (pQ c s n msg cm)]) w):=by
 refine P1 c.parts.length fun N hN=>P1 msg.length fun ML hML=>P1 cm.length fun CL hCL=>P1 (jG c s n msg cm) fun P hP=>P1 (pQ c s n msg cm) fun PE hPE=>?_;unfold pB;rw[hN,hML,hCL,hP,hPE];unfold eU;refine P1 w.heap.size fun D C=>P1 (((((w.alloc (Tq #[Ti Tl c.t,Ti Tl c.n,ag c.key,Tm pa N pc] 33)).alloc (Tq #[Ti Tl s.id,ag s.x] 39)).alloc (Tq #[Ti Tl n] 3)).alloc (Tq #[Tm ma ML mc] 37)).alloc (Tq #[Ti Tl 0,Ti Tt 0] 39)) fun U d=>have B:=Tn (show aq w U by rw[<-d];exact af (af (af (af (af P0 _) _) _) _) _);have z0:U.cell? ⟨D,0,U8⟩=Ts (Ti Tl c.t):=Pk;have z1:U.cell? ⟨D,1,U8⟩=Ts (Ti Tl c.n):=Pk;have z2:U.cell? ⟨D,2,U8⟩=Ts (ag c.key):=Pk;have z3:U.cell? ⟨D,3,U8⟩=Ts (Tm pa N pc):=Pk;have s0:U.cell? ⟨D+1,0,U8⟩=Ts (Ti Tl s.id):=Pk;have s1:U.cell? ⟨D+1,1,U8⟩=Ts (ag s.x):=Pk;have n0:U.cell? ⟨D+1+1,0,U8⟩=Ts (Ti Tl n):=Pk;have m0:U.cell? ⟨D+1+1+1,0,U8⟩=Ts (Tm ma ML mc):=Pk;?_;have hr0:U.heap[D+1+1+1+1]?=Ts (Tq #[Ti Tl 0,Ti Tt 0] 39 (0,0)):=by
  rw[<-d];have:=UZ ((((w.alloc (Tq #[Ti Tl c.t,Ti Tl c.n,ag c.key,Tm pa N pc] 33)).alloc (Tq #[Ti Tl s.id,ag s.x] 39)).alloc (Tq #[Ti Tl n] 3)).alloc (Tq #[Tm ma ML mc] 37)) (Tq #[Ti Tl 0,Ti Tt 0] 39);rw[Ud,Ud,Ud,Ud,C]at this;exact this
 have hDw:w.heap.size<=D+1+1+1+1:=Ph;have hm':=K;have hcs':=hcs;rw[hML]at hm';refine P8 (K.ext B) (hcs.ext B) (h.ext B) hN hML hCL hP hPE fun HM HCS H HN HML HCL HP HPE=>?_;rw[hML]at hml;rw[hCL]at hcl hcb;refine PC s0 s1 n0 m0 hr0 fun HS0 HS1 HN0 HM0 HR0=>?_;clear h K hm' hcs hcs' hN hML hCL hP hPE;go_enter func44,ntmps44;go_upto_region 1 with fail;try rw[d]
 try rw[C]
 clear d s0 s1 n0 hr0;go_upto_region 2 with fail;refine P1 U.heap.size fun E g=>P1 (U.alloc (Tq #[Ti Tl c.t,Ti Tl c.n,ag c.key,Tm pa N pc,Tm ma ML mc,Tm ca CL cc] 132)) fun R Q=>have y:=Tn (show aq U R by rw[<-Q];exact af P0 _);?_
 have ad:Hid (kE R E c msg cm pa pc ma mc ca cc):=Tn (by
  have c0:R.cell? ⟨E,0,U8⟩=Ts (Ti Tl c.t):=R5;have c1:R.cell? ⟨E,1,U8⟩=Ts (Ti Tl c.n):=R5;have c2:R.cell? ⟨E,2,U8⟩=Ts (ag c.key):=R5;have c3:R.cell? ⟨E,3,U8⟩=Ts (Tm pa N pc):=R5;have c4:R.cell? ⟨E,4,U8⟩=Ts (Tm ma ML mc):=R5;have c5:R.cell? ⟨E,5,U8⟩=Ts (Tm ca CL cc):=R5;have h1:=H.out.ext y
  exact⟨c0,c1,c2,by rw[HN.out];exact c3,by rw[HML.out];exact c4,by rw[HCL.out];exact c5,h1.key,h1.pl,h1.pm,h1.pb,h1.ps,HM.ext y,by rw[HML.out];exact hml,by rw[HCL.out];exact hcl,hcx,by rw[HCL.out];exact hcb,HCS.ext y⟩)
 try rw[Q]
 try rw[g]
 clear Q z0 z1 z2 z3 m0;refine P1 R.heap.size fun O hO=>P1 (R.alloc (Tq #[Ti Tl 0,Ti Tt 0] 39)) fun I Y=>have HE2:=Tn (show aq R I from QQ);have HO2:Hid (I.heap[O]?=Ts (Tq #[Ti Tl 0,Ti Tt 0] 39 (0,0))):=Tn (PP Y hO);have HSZ:Hid (I.heap.size=O+1):=Tn (by rw[<-Y,Ud,hO]);?_;go_upto_region 3 with fail;try rw[Y]
 try rw[hO]
 clear Y;go_wp2_with fail;refine P1 (cE s n msg) fun own hown=>have HOWN:=Tn hown;P1 I.heap.size fun FB hFB=>P1 (Value.func (ZP 53) #[UK (Ts {block:=E,off:=0})] #[]) fun f0 hf0=>P1 (Value.func (ZP 112) #[] #[UK (Ts {block:=D+1,off:=0}),UK (Ts {block:=D+1+1,off:=0}),UK (Ts {block:=D+1+1+1,off:=0}),UK (Ts {block:=O,off:=0})]) fun f1 hf1=>P1 (Value.func (ZP 54) #[UK (Ts {block:=E,off:=0})] #[]) fun f2 hf2=>?_;rw[hf0,hf1,hf2];refine P1 (I.alloc (Tq #[f0,f1,f2] 134)) fun W3 hW3=>?_
 have HQ0:Hid (ou R O FB f0 f1 f2 own 0 W3):=Tn (by
  have q0:W3.cell? ⟨FB,0,U8⟩=Ts f0:=T7;have q1:W3.cell? ⟨FB,1,U8⟩=Ts f1:=T7;have q2:W3.cell? ⟨FB,2,U8⟩=Ts f2:=T7;have V:aq I W3:=by rw[<-hW3];exact af P0 _
  exact⟨aa HE2 V,(V.block O (UE.1 HO2).1).trans (by rw[if_neg Pi];exact HO2.out),q0,q1,q2⟩)
 have HFO:Hid (FB≠O):=Tn (by have:=HSZ.out;omega);rw[hFB,hW3]
 have HCHK:Hid (∀k f e,[f0,f1,f2][k]?=Ts f->[dC c,bY s n,cH c cm][k]?=Ts e->(∀i x,i<k->[dC c,bY s n,cH c cm][i]?=Ts x->x=0)->IJ f e (ou R O FB f0 f1 f2 own k) (ou R O FB f0 f1 f2 own (k+1))):=Tn (by
  intro k f e o he _;match k,o,he with
  |0,o,he=>
   cases o;cases he;rw[<-hf0];refine iS IK fun W hQ=>(BE (ad.ext hQ.ext)).mono ?_;rintro r W'⟨rfl,hE'⟩;have h':=hQ.on hE';exact⟨rfl,h'.ext,by rw[if_neg Pi];have:=h'.own;rw[if_neg Pi]at this;exact this,h'.q0,h'.q1,h'.q2⟩
  |1,o,he=>
   cases o;cases he;rw[<-hf1];refine iS LU fun W hQ=>have hEW:=aa y hQ.ext;have u:=hQ.own;?_;rw[if_neg Pi]at u;refine(KP s n _ msg (D+1) (D+1+1) (D+1+1+1) O W m (HM.ext hEW) (by rw[HML.out];omega) (ae HS0 hEW) (ae HS1 hEW) (ae HN0 hEW) (by rw[HML.out];exact ae HM0 hEW) u).mono ?_;rintro r W'⟨rfl,W5,Z,rfl⟩;rw[hown];exact⟨rfl,(hQ.on Z).far Ph HFO⟩
  |2,o,he=>
   cases o;cases he;rw[<-hf2];refine iS yF fun W hQ=>(xz (ad.ext hQ.ext)).mono ?_;rintro r W'⟨rfl,hE'⟩;have h':=hQ.on hE';exact⟨rfl,h'.ext,by rw[if_pos Pi];have:=h'.own;rw[if_pos Pi]at this;exact this,h'.q0,h'.q1,h'.q2⟩
  |k+3,o,he=>simp at o)
 have HCELL:Hid (∀k W,k<=3->ou R O FB f0 f1 f2 own k W->∀i,i<3->∃f,[f0,f1,f2][i]?=Ts f/\W.cell? ⟨FB,0+i,U8⟩=Ts f):=Tn (by
  intro k W _ hQ i hi;obtain rfl|rfl|rfl:i=0\/i=1\/i=2:=Ph
  .exact⟨f0,rfl,hQ.q0⟩
  .exact⟨f1,rfl,hQ.q1⟩
  exact⟨f2,rfl,hQ.q2⟩)
 clear hW3 hf0 hf1 hf2 hown hO hFB g;refine(IH [f0,f1,f2] [dC c,bY s n,cH c cm] 3 FB 0 3 (ou R O FB f0 f1 f2 own) W3 rfl Ph Ph HCHK HCELL HQ0).mono ?_;rintro r W4⟨rfl,k,hk3,ac,hk0⟩;have hre:Em c s n cm=fe [dC c,bY s n,cH c cm]:=rfl;rw[<-hre]at hk0⊢;have z:=Tn (LI c s n msg cm);refine P1 (Em c s n cm) fun RE hRE=>have hcz:RE=0->1<=s.id/\s.id<=7/\s.x<Rp/\0<=n/\n<=1099511627776:=fun h=>Ab (KO (hRE.trans h));have HCZ:=Tn hcz;?_;rw[hRE]at z hk0⊢;clear hre hRE hcz;have HE4:=Tn (aa (aa B y) ac.ext);have X:=((aa y ac.ext).block _ (UE.1 HR0).1).trans HR0;have HR4:=Tn X;by_cases hz:RE=0
 .subst hz;rw[if_neg Pi,HOWN.out]at z;have hcz:=HCZ.out rfl;obtain rfl:=hk0 rfl;have ho4:=ac.own;rw[if_pos Pi]at ho4;have HO4:=Tn ho4;have y0:=ae HS0 (aa y ac.ext);have HE14:=Tn ac.ext;clear X ac ho4 hk3 hk0;go_wp2_with fail;refine(LQ s.id (ad.ext HE14)).mono ?_;rintro r W5⟨rfl,Z⟩;refine P5 (aa HE14 Z) ((Z.block O (UE.1 HO4).1).trans HO4) ((Z.block _ (UE.1 HR4).1).trans HR4) (aa HE4 Z) fun HE15 HO5 HR5 HE5=>?_;clear Z y0;refine P1 (ac0 cm s.id) fun kk hkk=>?_;rw[hkk];have HKK:=Tn hkk;clear hkk;unfold eU;refine P1 W5.heap.size fun F hF=>P1 (W5.alloc (Tq #[Ti Tl kk.id,Ti Tt (kk.x:Int)] 39)) fun A G=>have HE56:=Tn (show aq W5 A by rw[<-G];exact af P0 _);?_;have k0:A.cell? ⟨F,0,U8⟩=Ts (Ti Tl kk.id):=by rw[<-G,<-hF];simp[go_sem]
  have k1:A.cell? ⟨F,1,U8⟩=Ts (ag kk.x):=by rw[<-G,<-hF];simp[go_sem]
  have q:=(HE56.block _ (UE.1 HR5).1).trans HR5;have ho6:=(HE56.block _ (UE.1 HO5).1).trans HO5;have HR6:=Tn q;refine PM ho6 fun o0 o1=>P4 (aa HE5 HE56) (aa HE15 HE56) fun HE06 M=>?_;clear ho6;cases ab:LO cm s.id with
  |none=>
   have S:Hid (pQ c s n msg cm=60):=Tn (by rw[z.out,ab];rfl);go_upto_region 7 with fail;(try rw[G]);(try rw[hF]);clear G hF ab;exact Sm
  |some k2=>
   have hk2:k2=kk:=by rw[<-HKK.out];unfold ac0;rw[ab];rfl
   subst hk2;rw[ab]at z;by_cases heq:k2=own
   .subst heq;rw[if_pos rfl]at z;go_upto_region 7 with fail;(try rw[G]);(try rw[hF]);clear G hF ab;refine P5 (ae HS0 (aa y M)) (ae HS1 (aa y M)) (ae HN0 (aa y M)) (ae HM0 (aa y M)) fun HZ0 HZ1 HZ2 HZ3=>?_;go_upto_region 9 with fail;refine P4 (ad.ext M) (HM.ext (aa y M)) fun HSX HM6=>have L:Hid (P=⟨s.id,mM (io s n.toNat msg) (gV (iW c msg cm s.id) s.x)⟩):=Tn (by rw[<-HP.out];unfold jG;rw[if_pos z.out]);have HNL:=Tn (Lr s n.toNat msg);P1 (io s n.toNat msg) fun N hNN=>?_;rw[hNN]at L HNL;have HNN:=Tn hNN;have z0:=HZ0.out;have z1:=HZ1.out;have z2:=HZ2.out;have z3:=HZ3.out;rw[<-HML.out]at z3;clear q hNN k0 k1 o0 o1;refine tq 15 16 Pg Pg Pg rfl Pg (fun b=>aq A b) (fun b=>b.heap[D+1+1+1+1]?=Ts (Tq #[Ti Tl s.id,ag (mM N (gV (iW c msg cm s.id) s.x))] 39 (0,0))/\aq w b) (ap _) ?_;simp only[Xx,Wk];iterate 15
     (first|refine az rfl rfl rfl rfl ?_|refine aF rfl rfl rfl rfl ?_|refine aw rfl ?_|refine aj rfl rfl rfl rfl rfl ?_|refine dS rfl rfl rfl rfl rfl ?_|((first|refine av (v:=?_) rfl rfl (fun hb b l=>?_) ?_|refine ar (v:=?_) rfl rfl rfl (fun hb1 hb b l=>?_) ?_|refine ax (v:=?_) rfl (fun b l=>?_) ?_);rotate_left;(focus(have f0:=ae z0 l;have f1:=ae z1 l;have f2:=ae z2 l;have f3:=ae z3 l;unfold ak;go_simp;first|exact aD l|(go_at_call 40;refine(acR s n _ msg _ hcz (HM6.ext l) (by rw[HML.out];omega)).mono ?_;rintro e w''⟨rfl,h2⟩;rw[HNN.out];exact aH (aa l h2))|(go_at_call 114;refine P2 (vR s.id (HSX.ext l)) fun w'' h2=>?_;exact aH (aa l h2))|(go_at_call 74;refine P2 (jb _ _ (ip (wI _ _ _ _)) m _) fun w'' h2=>?_;exact aH (aa l h2))|(go_at_call 73;refine P2 (vy N _ _) fun w'' h2=>?_;exact aH (aa l h2))))))
     simp only[Ua,P7]
    refine BF (v:=undef) (v2:=Ti Tl 0) U8 (Ts 11) rfl rfl rfl rfl rfl rfl (fun b l=>?_) (fun T b hT=>?_) (fun b l=>?_)
    .have u:=(l.block _ (UE.1 HR6).1).trans HR6;refine PM u fun e0 am=>PO u fun g0 g1=>have p:=bz u hDw (aa HE06 l) (Ti Tl s.id) (ag (mM N (gV (iW c msg cm s.id) s.x)));have j:=Tn p;?_;clear u p;exact Zcn
    .unfold ak;go_simp;exact⟨rfl,hT⟩
    obtain⟨u,g⟩:=l;refine PM u fun q0 q1=>have ys:=Tn g;?_;clear u g;simp only[Ua,P7];go_wp2;exact VC (v:=UW #[UT #[Ti Tl s.id,ag (mM N (gV (iW c msg cm s.id) s.x))],Ti Tl 0]) QO rfl ⟨by rw[L.out,<-HPE.out,z.out],ys⟩
   rw[if_neg (by intro h;exact heq (Vm h))]at z;have S:Hid (pQ c s n msg cm=60):=z;obtain⟨ki,kx⟩:=k2;obtain⟨oi,ox⟩:=own;by_cases hki:ki=oi
   .subst hki;have hkx:¬((kx:Int)=(ox:Int)):=fun h=>heq (by rw[Int.ofNat.inj h]);go_upto_region 7 with fail;(try rw[G]);(try rw[hF]);clear G hF ab heq;exact Sm
   go_upto_region 7 with fail;(try rw[G]);(try rw[hF]);clear G hF ab heq;exact Sm
 rw[if_pos hz]at z;have L:Hid (P=⟨0,0⟩):=Tn (by rw[<-HP.out];unfold jG;rw[if_neg (by rw[z.out];exact hz)]);have p:=bz HR4 hDw HE4 (Ti Tl 0) (Ti Tt 0);refine PI W4 (D+1+1+1+1) (Ti Tl 0) (Ti Tt 0) fun W5 hW5=>?_;rw[hW5]at p;refine P4 hW5 p fun HW5 j=>PM X fun e0 am=>PO X fun g0 g1=>?_;clear hW5 p X ac;go_wp2_with fail;rw[HW5.out];exact PM j.1 fun q0 q1=>VC (v:=UW #[UT #[Ti Tl 0,Ti Tt 0],Ti Tl RE]) QO rfl ⟨by rw[L.out,<-HPE.out,z.out];rfl,j.2⟩
end
section
variable {w w':UN} {b:Nat} {c:nt} {msg:au} {cm:List bq} {pa:Option VW} {pc:Nat} {ma:Option VW} {mc:Nat} {ca:Option VW} {cc:Nat}
def uR{n}:∀{l:List bq}{last:Int},0<=last->gD n last l=true->∀k∈l,1<=k.id/\k.id<=n
 |[],_,_,_,_,o=>Zbz
 |x::l,last,L,h,k,o=>by
  rw[gD]at h;simp only[Bool.and_eq_true,decide_eq_true_eq]at h;obtain⟨h1,c,_,A⟩:=h;cases o with
  |head=>exact⟨Ph,c⟩
  |tail _ o=>exact uR Ph A k o
def Gj{c l}(h:cH c l=0):∀k∈l,1<=k.id/\k.id<=c.n:=by
 refine uR (Int.le_refl 0) ?_;unfold cH at h;split at h
 .cases h
 rename_i h1
 cases u:gD c.n 0 l with
 |true=>rfl
 |false=>exact absurd u h1
def abT{c}(h:dC c=0):(c.parts.length:Int)=c.n:=by
 cases N:Af c with
 |true=>rw[BR N]at h;cases h
 |false=>exact(vM N).2.2.2.1
def agN{c l id}(J:dC c=0)(d:cH c l=0):∀k,LO l id=Ts k->1<=id/\id<=c.parts.length:=fun k o=>by
 have h1:=List.mem_of_find?_eq_some o;have b:=List.find?_some o;simp only[decide_eq_true_eq]at b;have A:=Gj d k h1;rw[b]at A;have:=abT J;omega
def Er(p:bq)(g pb:Nat)(h:kE w b c msg cm pa pc ma mc ca cc)(j:p.x<2^64)(d:∀k,LO cm p.id=Ts k->1<=p.id/\p.id<=c.parts.length)(x0:w.cell? ⟨g,0,U8⟩=Ts (UK (Ts ⟨b,0,U8⟩)))(p0:w.cell? ⟨pb,0,U8⟩=Ts (Ti Tl p.id))(p1:w.cell? ⟨pb,1,U8⟩=Ts (ag p.x)):
  VB UB 55 #[UK (Ts ⟨g,0,U8⟩),UK (Ts ⟨pb,0,U8⟩)] w (bM (Ti Tl (ajW c msg cm p)) w):=by
 refine P4 h d fun H f=>?_;go_enter func55,ntmps55;go_wp2_with fail;exact P2 (Lc p H j f) fun l D=>Zcr
def xk(c)(msg:au)(l p):gJ c msg l p=fe [dC c,cH c l,ajW c msg l p]:=by
 unfold gJ;simp only[fe];by_cases h1:dC c=0<;>by_cases b:cH c l=0<;>by_cases A:ajW c msg l p=0<;>simp[h1,b,A]
def Lw:∀args w,(Wu 55 args).run UB w= .ok (.enter 55 args) w:=Vv func55 Pg rfl
def yi(p:bq)(w)(h:mC w c pa pc)(m:p.x<2^64)(K:aJ w (Tm ma msg.length mc) msg)(ac:msg.length<=1000000)(al:cm.length<=cc)(hcx:cc<=9223372036854775807)(ab:cm.length<=1000000)(ao:cr 2 eF w ca cm):
  VB UB 17 #[pB c pa pc,Tm ma msg.length mc,Tm ca cm.length cc,eU p] w (bM (Ti Tl (gJ c msg cm p)) w):=by
 refine P1 c.parts.length fun N hN=>P1 msg.length fun ML J=>P1 cm.length fun CL G=>P1 (gJ c msg cm p) fun PE S=>?_;unfold pB;rw[hN,J,G,S];unfold eU;refine P1 w.heap.size fun D C=>P1 ((w.alloc (Tq #[Ti Tl c.t,Ti Tl c.n,ag c.key,Tm pa N pc] 33)).alloc (Tq #[Ti Tl p.id,ag p.x] 39)) fun q d=>have B:=Tn (show aq w q from Pz);have z0:q.cell? ⟨D,0,U8⟩=Ts (Ti Tl c.t):=Pk;have z1:q.cell? ⟨D,1,U8⟩=Ts (Ti Tl c.n):=Pk;have z2:q.cell? ⟨D,2,U8⟩=Ts (ag c.key):=Pk;have z3:q.cell? ⟨D,3,U8⟩=Ts (Tm pa N pc):=Pk;have s0:q.cell? ⟨D+1,0,U8⟩=Ts (Ti Tl p.id):=Pk;have s1:q.cell? ⟨D+1,1,U8⟩=Ts (ag p.x):=Pk;PG (K.ext B) (ao.ext B) (h.ext B) hN J G S fun HM HCS H HN am R HPE=>?_;rw[J]at ac;rw[G]at al ab;refine P4 s0 s1 fun HS0 HS1=>?_;go_enter func17,ntmps17;go_upto_region 1 with fail;try rw[d]
 try rw[C]
 go_upto_region 2 with fail;refine P1 q.heap.size fun E g=>?_;rw[g];refine P1 (q.alloc (Tq #[Ti Tl c.t,Ti Tl c.n,ag c.key,Tm pa N pc,Tm ma ML mc,Tm ca CL cc] 132)) fun l T=>have s:=Tn (show aq q l from QA);?_
 have u:Hid (kE l E c msg cm pa pc ma mc ca cc):=Tn (by
  have c0:l.cell? ⟨E,0,U8⟩=Ts (Ti Tl c.t):=R7;have c1:l.cell? ⟨E,1,U8⟩=Ts (Ti Tl c.n):=R7;have c2:l.cell? ⟨E,2,U8⟩=Ts (ag c.key):=R7;have c3:l.cell? ⟨E,3,U8⟩=Ts (Tm pa N pc):=R7;have c4:l.cell? ⟨E,4,U8⟩=Ts (Tm ma ML mc):=R7;have c5:l.cell? ⟨E,5,U8⟩=Ts (Tm ca CL cc):=R7;have h1:=H.out.ext s
  exact⟨c0,c1,c2,by rw[HN.out];exact c3,by rw[am.out];exact c4,by rw[R.out];exact c5,h1.key,h1.pl,h1.pm,h1.pb,h1.ps,HM.ext s,by rw[am.out];exact ac,by rw[R.out];exact al,hcx,by rw[R.out];exact ab,HCS.ext s⟩)
 have HSZ:Hid (l.heap.size=E+1):=Tn (by rw[<-T,Ud,g]);try rw[T]
 refine P1 (l.alloc (Tq #[UK (Ts ⟨E,0,U8⟩)] 130)) fun I Y=>have F:=Tn (show aq l I from QQ);?_;have x0:I.cell? ⟨E+1,0,U8⟩=Ts (UK (Ts ⟨E,0,U8⟩)):=by rw[<-Y,<-HSZ.out];simp[go_sem]
 have HX0:=Tn x0;try rw[Y]
 go_wp2_with fail;refine P1 I.heap.size fun Z z=>P1 (Value.func (ZP 53) #[UK (Ts {block:=E,off:=0})] #[]) fun f0 V=>P1 (Value.func (ZP 54) #[UK (Ts {block:=E,off:=0})] #[]) fun L X=>P1 (Value.func (ZP 55) #[] #[UK (Ts {block:=E+1,off:=0}),UK (Ts {block:=D+1,off:=0})]) fun P Q=>?_;rw[V,X,Q];refine P1 (I.alloc (Tq #[f0,L,P] 134)) fun O j=>have Id:Hid (aq I O):=Tn (by rw[<-j];exact af P0 _);have q0:O.cell? ⟨Z,0,U8⟩=Ts f0:=SL;have q1:O.cell? ⟨Z,1,U8⟩=Ts L:=SL;have q2:O.cell? ⟨Z,2,U8⟩=Ts P:=SL;?_;rw[z,j]
 have ad:Hid (∀(k:Nat)f e,[f0,L,P][k]?=Ts f->[dC c,cH c cm,ajW c msg cm p][k]?=Ts e->(∀i x,i<k->[dC c,cH c cm,ajW c msg cm p][i]?=Ts x->x=0)->IJ f e (fun W=>aq O W) (fun W=>aq O W)):=Tn (by
  intro k f e o M ah;match k,o,M with
  |0,o,M=>
   cases o;cases M;rw[<-V];refine iS IK fun W b=>(BE (u.ext (aa F (aa Id b)))).mono ?_;exact Wv
  |1,o,M=>
   cases o;cases M;rw[<-X];refine iS yF fun W b=>(xz (u.ext (aa F (aa Id b)))).mono ?_;exact Wv
  |2,o,M=>
   cases o;cases M;rw[<-Q];have hc0:=ah 0 _ Pi rfl;have he0:=ah 1 _ Pi rfl;refine iS Lw fun W b=>have a0:=aa s (aa F (aa Id b));(Er p (E+1) (D+1) (u.ext (aa F (aa Id b))) m (agN hc0 he0) (ae HX0 (aa Id b)) (ae HS0 a0) (ae HS1 a0)).mono ?_;exact Wv
  |k+3,o,M=>simp at o)
 have U:Hid (∀(k:Nat)W,k<=3->aq O W->∀i,i<3->∃f,[f0,L,P][i]?=Ts f/\W.cell? ⟨Z,0+i,U8⟩=Ts f):=Tn (by
  intro k W _ b i hi;obtain rfl|rfl|rfl:i=0\/i=1\/i=2:=Ph
  .exact⟨f0,rfl,ae q0 b⟩
  .exact⟨L,rfl,ae q1 b⟩
  exact⟨P,rfl,ae q2 b⟩)
 refine(IH [f0,L,P] [dC c,cH c cm,ajW c msg cm p] 3 Z 0 3 (fun _ W=>aq O W) O rfl Ph Ph (fun k f e h1 h2 A=>ad.out k f e h1 h2 A) U P0).mono ?_;rintro r W4⟨rfl,k,hk3,an,hk0⟩;rw[<-xk,HPE.out];have HE4:=Tn (aa (aa B s) (aa F (aa Id an)));go_wp2;go_ret;exact⟨rfl,HE4⟩
end
section
def Ju(b t n)(c:au):bS (iO b t n c)=(We n).map fun(k:Nat)=>(k:Int)+1:=by
 unfold bS iO;rw[List.map_map];rfl
def B7:∀n,0<n->n<=7->cM ((We n).map fun(k:Nat)=>(k:Int)+1)=true:=by
 intro n L b;obtain rfl|rfl|rfl|rfl|rfl|rfl|rfl:n=1\/n=2\/n=3\/n=4\/n=5\/n=6\/n=7:=Ph;all_goals decide+kernel
def Jz(b t n)(c:au)(L:0<n)(d:n<=7):aj0 (iO b t n c)=true:=by
 unfold aj0;rw[Ju,B7 n L d,Bool.and_true,WE];intro s z;obtain⟨i,hi⟩:=List.getElem?_of_mem z;obtain⟨_,rfl⟩:=vH hi;simp only[decide_eq_true_eq];exact sn _ _ _ _ Pi
def pL(b t n)(c:au):(iO b t n c).length=n:=by unfold iO;simp
def o9(b:au):Nat:=jE iU [b]
def El(b:au):0<o9 b/\o9 b<Rp:=by
 have:jh (cj iU [b]) (Rp-1)<Rp-1:=kX Pi;have c:Rp=1152921504606845789:=rfl;have e:o9 b=jh (cj iU [b]) (Rp-1)+1:=rfl;omega
def yK(b:au)(t n:Nat):List bq:=iO (o9 b) t n b
def Ed(b:au)(t n:Nat):nt:=⟨(t:Int),(n:Int),base (o9 b),gA (yK b t n)⟩
def xJ(a b c d:UV):Nat->UV:=fun i=>if i=0 then a else if i=1 then b else if i=2 then c else d
def ni{f g:Nat->UV}{n}(h:∀i,i<n->f i=g i):fK f n=fK g n:=by
 apply Yc;intro j;by_cases Q:j<n
 .rw[gm _ Q,gm _ Q,h j Q]
 exact Zcu
def ah6{i:Nat}(h:i<4):i=0\/i=1\/i=2\/i=3:=Ph
def adF(a b c d):fK (xJ a b c d) 4=#[a,b,c,d]:=by
 apply Yc;intro j;by_cases Q:j<4
 .rw[gm _ Q];rcases ah6 Q with rfl|rfl|rfl|rfl<;>rfl
 exact Zct
def adQ(a b c d x):fK (sC (xJ a b c d) 0 x) 4=fK (xJ x b c d) 4:=ni fun i hi=>Qj
def acL(a b c d x):fK (sC (xJ a b c d) 1 x) 4=fK (xJ a x c d) 4:=ni fun i hi=>Qj
def aa2(a b c d x):fK (sC (xJ a b c d) 2 x) 4=fK (xJ a b x d) 4:=ni fun i hi=>Qj
def abY(a b c d x):fK (sC (xJ a b c d) 3 x) 4=fK (xJ a b c x) 4:=ni fun i hi=>Qj
def gh(w:UN)(b:Nat)(t:TypeId)(p q r s:UV):Prop:=aS w b t (xJ p q r s) 4
section
variable {w w2:UN} {b:Nat} {t:TypeId} {p q r s:UV}
def gh.ext(h:gh w b t p q r s)(g:aq w w2):gh w2 b t p q r s:=aS.ext h g
def gh.c0(h:gh w b t p q r s):w.cell? ⟨b,0,U8⟩=Ts p:=aS.cell h Pi
def gh.c1(h:gh w b t p q r s):w.cell? ⟨b,1,U8⟩=Ts q:=aS.cell h Pi
def gh.c2(h:gh w b t p q r s):w.cell? ⟨b,2,U8⟩=Ts r:=aS.cell h Pi
def gh.c3(h:gh w b t p q r s):w.cell? ⟨b,3,U8⟩=Ts s:=aS.cell h Pi
def gh.free(h:gh w b t p q r s)(i:Nat):w.frozen? ⟨b,i,U8⟩=false:=aS.free h i
def gh.set0(h:gh w2 b t p q r s)(c:w.heap.size<=b)(g:aq w w2)(x):gh (w2.setCell ⟨b,0,U8⟩ x) b t x q r s/\aq w (w2.setCell ⟨b,0,U8⟩ x):=by
 have:=aS.set h c g 0 x;unfold aS at this;rw[adQ]at this;exact this
def gh.set1(h:gh w2 b t p q r s)(c:w.heap.size<=b)(g:aq w w2)(x):gh (w2.setCell ⟨b,1,U8⟩ x) b t p x r s/\aq w (w2.setCell ⟨b,1,U8⟩ x):=by
 have:=aS.set h c g 1 x;unfold aS at this;rw[acL]at this;exact this
def gh.set2(h:gh w2 b t p q r s)(c:w.heap.size<=b)(g:aq w w2)(x):gh (w2.setCell ⟨b,2,U8⟩ x) b t p q x s/\aq w (w2.setCell ⟨b,2,U8⟩ x):=by
 have:=aS.set h c g 2 x;unfold aS at this;rw[aa2]at this;exact this
def gh.set3(h:gh w2 b t p q r s)(c:w.heap.size<=b)(g:aq w w2)(x):gh (w2.setCell ⟨b,3,U8⟩ x) b t p q r x/\aq w (w2.setCell ⟨b,3,U8⟩ x):=by
 have:=aS.set h c g 3 x;unfold aS at this;rw[abY]at this;exact this
def gh.all(h:gh w2 b t p q r s)(d:w.heap.size<=b)(g:aq w w2)(x y z v):
  gh ((((w2.setCell ⟨b,0,U8⟩ x).setCell ⟨b,1,U8⟩ y).setCell ⟨b,2,U8⟩ z).setCell ⟨b,3,U8⟩ v) b t x y z v/\aq w ((((w2.setCell ⟨b,0,U8⟩ x).setCell ⟨b,1,U8⟩ y).setCell ⟨b,2,U8⟩ z).setCell ⟨b,3,U8⟩ v):=by
 have h1:=h.set0 d g x;have c:=h1.1.set1 d h1.2 y;have A:=c.1.set2 d c.2 z;exact A.1.set3 d A.2 v
def gh.new(w:UN)(t p q r s):gh (w.alloc (Tq #[p,q,r,s] t)) w.heap.size t p q r s:=by
 unfold gh aS;rw[adF];exact UZ _ _
end
def fS{w}{b off D:Nat}{l:List bq}(h:cr 2 eF w (Ts ⟨b,off,U8⟩) l)(hb:D≠b)(i:Nat)(v:UV):cr 2 eF (w.setCell ⟨D,i,U8⟩ v) (Ts ⟨b,off,U8⟩) l:=fun j x m=>by
 obtain⟨f,o',d,h1,c,A⟩:=h j x m;cases d;exact⟨_,_,rfl,(XX _ _ _ _ hb).trans h1,(XX _ _ _ _ hb).trans c,A⟩
def DQ(l:List bq)(a n cap w)(p:l.length=n)(L:0<n)(f:n<=cap)(hn:n<=1000000000)(h:cr 2 eF w a l)(K:aj0 l=true):
  VB UB 23 #[Tm a n cap] w (fun e t=>∃b c,e=UO (UW #[Tm (Ts ⟨b,0,U8⟩) n c,Ti Tl 0])/\w.heap.size<=b/\n<=c/\c<=maxLen/\cr 2 eF t (Ts ⟨b,0,U8⟩) (gA l)/\aq w t):=by
 refine P3 p h K fun m H B=>?_;go_enter func23,ntmps23;go_wp2_with fail;refine P2 (OR l a n cap _ m f hn H) fun C q=>have s:=Tn q;?_;rw[B.out];go_wp2_with fail;refine(xV l a n cap _ m f hn (H.ext s)).mono ?_;rintro e G⟨v,rfl,r,D⟩;have d:(gA l).length=n:=by unfold gA;rw[VR];exact m.out
 obtain⟨g,E,rfl,j,_⟩:=World.ownsRow.form r L;obtain⟨a2,c2,z,x,A,o⟩:=M4 d (FD l) r;cases z;refine P3 o (Nat.le_trans s.size j) (aa s D) fun y u F=>?_;go_wp2;go_ret2
 exact⟨_,_,rfl,u,x,A,y,F⟩
def aaA(c:au)(t n:Nat)(w:UN)(e:Ending)(d:UN):Prop:=
 ∃pa pc b,e=UO (UW #[pB (Ed c t n) pa pc,Tm (Ts ⟨b,0,U8⟩) n n,Ti Tl 0])/\mC d (Ed c t n) pa pc/\cr 2 eF d (Ts ⟨b,0,U8⟩) (yK c t n)/\aq w d
def Jc(t n:Nat)(v)(j:au)(w)(h1:0<t)(c:t<=n)(A:n<=7)(z:aJ w v j)(p:j.length<=60000000000000):
  VB UB 6 #[v,Ti Tl (t:Int),Ti Tl (n:Int)] w (aaA j t n w):=by
 have L:=Tn (El j);refine P1 (o9 j) fun S l=>P4 z l fun HS P=>have a0:jE iU [j]=S:=l;have al:=Tn a0;?_;rw[l]at L;clear l a0;obtain⟨sa,sc,rfl⟩:=HS.out.form;refine P1 w.heap.size fun D C=>P1 (w.alloc (Tq #[Ti Tl 0,Ti Tl 0,Ti Tt 0,zz] 33)) fun f d=>have B:=Tn (show aq w f from Pq);have HR0:Hid (gh f D 33 (Ti Tl 0) (Ti Tl 0) (Ti Tt 0) (zz)):=Tn (by rw[<-d,<-C];exact gh.new _ _ _ _ _ _);have H:w.heap.size<=D:=Ph;?_;go_enter func6,ntmps6;go_upto_region 1 with fail;try rw[d]
 try rw[C]
 clear d C;go_wp2_with fail;refine P2 (uQ _ j _ (HS.ext B) p) fun W1 q=>P4 (aa B q) (HR0.ext q) fun s ab=>?_;rw[al.out];go_wp2_with fail;refine(Ox S t n _ j _ h1 c A L.2 (HS.ext s) p).mono ?_;rintro e I⟨b,rfl,hwb,an,W⟩;refine P3 an (aa s W) (ab.ext W) fun a2 F G=>have e0:=G.out.c0;have am:=G.out.c1;have g0:=G.out.free 0;have g1:=G.out.free 1;?_;go_upto_region 6 with fail;have u:D≠b:=by have:=(UE.1 ab).1;omega
 have x:=G.out.set0 H F (Ti Tl (t:Int));have r:=x.1.set1 H x.2 (Ti Tl (n:Int));have g:=fS (fS a2 u 0 (Ti Tl (t:Int))) u 1 (Ti Tl (n:Int));refine PI I D (Ti Tl (t:Int)) (Ti Tl (n:Int)) fun O ad=>?_;rw[ad]at r g⊢;refine P3 r.1 r.2 g fun HR3 Id HS3=>?_;clear ad;go_wp2_with fail;refine P2 (qr S _ L.1 L.2) fun W4 J=>P3 (HR3.ext J) (aa Id J) (HS3.ext J) fun V HE4 a6=>have e2:=V.out.c2;have g2:=V.out.free 2;have E:=V.out.set2 H HE4 (ag (base S));have g:=fS a6 u 2 (ag (base S));P1 (W4.setCell ⟨D,2,U8⟩ (ag (base S))) fun W5 T=>?_;rw[T]at E g;refine P5 E.1 E.2 g T fun ah HE5 ao Y=>?_;clear T;go_upto_region 8 with fail;rw[Y.out];go_wp2_with fail;refine(DQ (iO S t n j) _ n n _ (pL _ _ _ _) Ph (UY _) Ph ao (Jz _ _ _ _ Ph A)).mono ?_;rintro e W6⟨pb,pc,rfl,hwp,a1,X,Z,K⟩;refine P5 (ah.ext K) (aa HE5 K) (ao.ext K) Z fun Q HE6 HS6 HP6=>?_;have y:D≠pb:=by have:=(UE.1 ah).1;omega
 have e3:=Q.out.c3;have g3:=Q.out.free 3;have E:=Q.out.set3 H HE6 (Tm (Ts ⟨pb,0,U8⟩) n pc);have g:=fS HS6 u 3 (Tm (Ts ⟨pb,0,U8⟩) n pc);have m:=fS HP6 y 3 (Tm (Ts ⟨pb,0,U8⟩) n pc);refine P1 (W6.setCell ⟨D,3,U8⟩ (Tm (Ts ⟨pb,0,U8⟩) n pc)) fun W7 R=>?_;rw[R]at E g m;refine PC E.1 E.2 g m R fun o a5 HS7 a4 ac=>?_;clear R;go_upto_region 11 with fail;rw[ac.out];have e0:=o.out.c0;have am:=o.out.c1;have e2:=o.out.c2;have e3:=o.out.c3;have g0:=o.out.free 0;have g1:=o.out.free 1;have g2:=o.out.free 2;have g3:=o.out.free 3;have E:=o.out.all H a5 (Ti Tl (t:Int)) (Ti Tl (n:Int)) (ag (base S)) (Tm (Ts ⟨pb,0,U8⟩) n pc);have g:=fS (fS (fS (fS HS7 u 0 (Ti Tl (t:Int))) u 1 (Ti Tl (n:Int))) u 2 (ag (base S))) u 3 (Tm (Ts ⟨pb,0,U8⟩) n pc);have m:=fS (fS (fS (fS a4 y 0 (Ti Tl (t:Int))) y 1 (Ti Tl (n:Int))) y 2 (ag (base S))) y 3 (Tm (Ts ⟨pb,0,U8⟩) n pc);refine PQ W7 D (Ti Tl (t:Int)) (Ti Tl (n:Int)) (ag (base S)) (Tm (Ts ⟨pb,0,U8⟩) n pc) fun W8 U=>?_;rw[U]at E g m;refine PC E.1 E.2 g m U fun M HE8 HS8 HP8 HW8=>?_;clear U;go_wp2_with fail;rw[HW8.out];have q0:=M.out.c0;have q1:=M.out.c1;have q2:=M.out.c2;have q3:=M.out.c3;have a3:base S<2^64:=pw S;have N:(gA (iO S t n j)).length=n:=by unfold gA;rw[VR];exact pL _ _ _ _
 refine VC (v:=UW #[UT #[Ti Tl (t:Int),Ti Tl (n:Int),ag (base S),Tm (Ts ⟨pb,0,U8⟩) n pc],Tm (Ts ⟨b,0,U8⟩) n n,Ti Tl 0]) (by simp[results,results6,go_sem,q0,q1,q2,q3]) rfl ⟨Ts ⟨pb,0,U8⟩,pc,b,?_,?_,?_,HE8⟩
 .unfold pB Ed yK;simp only;rw[P.out,N]
 .unfold Ed yK;rw[P.out];exact⟨a3,by simp only;rw[N];exact a1,by unfold maxLen at X;exact X,by simp only;rw[N];omega,HP8⟩
 unfold yK;rw[P.out];exact HS8.out
end
end Go.Proofs.YtjmgalpkbkcmkaaGreatDoor

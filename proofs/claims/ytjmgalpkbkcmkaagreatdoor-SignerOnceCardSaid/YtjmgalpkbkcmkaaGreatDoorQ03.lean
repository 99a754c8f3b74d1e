import Derived.Test.YtjmgalpkbkcmkaaGreatDoorQ02
set_option maxRecDepth 100000
set_option maxHeartbeats 16000000
set_option linter.all false
namespace Go.Proofs.YtjmgalpkbkcmkaaGreatDoor
open Go.RowKit Go.Proofs.Tryz Go.Proofs.YtjmgalpkbkcmkaaGreatDoor.Tryz
open _root_.Array renaming replicate_succ->WX,replicate_zero->WY
open Bool renaming eq_iff_iff->YH,and_assoc->YS,not_eq_false'->YD,or_eq_false_iff->YT
open Go renaming callsIn_wide->Vn,maxLen->VL,World->UN,Value->UV,Boxed->VX,Calls->VB
open Go.Act renaming put->Ua
open Go.Boxed renaming new->Wt
open Go.Ending renaming returned->UO
open Go.IntKind renaming u64->Tt,i64->Tl
open Go.Lib renaming indexByte->XS,hasPrefix->Yw,hid->Tn,size_eq->YW,countByte->YY
open Go.Obj renaming cells->Tq
open Go.Proofs.Tryz renaming prog->UB
open Go.Proofs.YtjmgalpkbkcmkaaGreatDoor.Fr renaming of_ext->Uh,setCell->Uz
open Go.Value renaming string->UH,bool->U1,slice->Tm,tuple->UW,int->Ti,pointer->UK
open Go.World renaming size_alloc->Ud
open List renaming mem_cons->VN,take_length->Yi,append_toArray->Wi,getElem?_eq_some_iff->UU,push_toArray->XF,getElem?_eq_getElem->V8,length_nil->VJ,mem_of_getElem?->Uv,take_add_one->Xk,cons_append->Vu,nil_append->Vd,length_cons->Up,size_toArray->WG
open Nat renaming reduceSub->YI,le_refl->UY,reduceAdd->VO,mul_one->XT,zero_le->VF
open Option renaming none->U8,some->Ts
open UInt8 renaming ofNat->VI
variable {b c w:World} {i k:Nat} {l:List ByteArray} {p s:ByteArray} {v:Value}
section
attribute [local go_sem] Oper.semAt_some fP cP dR
def G9(w:UN)(b:Nat):Nat:=match w.cell? ⟨b,0,U8⟩with|some (UH r)=>r.size|_=>0
def qP{b t r}(h:VX w b t (UH r)):G9 w b=r.size:=by
 unfold G9;rw[h.cell]
def AF(x:au):Array UV:=#[UH ⟨x.toArray⟩]
def Ar(s c)(w:UN):
  VB UB 278 #[UH s,UH c] w fun e b=>
   e=UO (.func (.func 312) #[] #[UK (Ts ⟨w.heap.size+1,0,U8⟩),UK (Ts ⟨w.heap.size,0,U8⟩),UK (Ts ⟨w.heap.size+2,0,U8⟩)])/\
   b=((w.alloc (Tq #[UH s] 9)).alloc (Tq #[UH c] 9)).alloc (Tq #[Ti Tl 0] 3):=by
 go_enter func278,ntmps278;exact U7
def Jq(s)(w:UN):
  VB UB 277 #[UH s,UH ⟨#[46]⟩] w fun e b=>e=UO (Ti Tl (YY s.data.toList 46))/\w=b:=
 (strings_Count_one s 46 w).mono fun _ _⟨h1,c⟩=>⟨h1,c.symm⟩
def zy(s:ByteArray)(x:Int)(h:XS s.data.toList 46=x)(w:UN):
  VB UB 281 #[UH s,UH ⟨#[46]⟩] w fun e b=>e=UO (Ti Tl x)/\w=b:=
 (strings_Index_one s 46 w).mono fun _ _⟨h1,c⟩=>⟨by rw[h1,h],c.symm⟩
def aaW{l:au}(h:XS l 46=i):i<l.length:=by
 have:=(Lib.indexByte_some h).1;exact(UU.1 this).1
def NM{r:ByteArray}{x:au}{t:List au}(h:(cut s.data.toList).drop k=cut r.data.toList)(u:cut r.data.toList=x::t):
  (cut s.data.toList)[k]?=Ts x/\(cut s.data.toList).drop (k+1)=t/\(cut s.data.toList).length=k+1+t.length:=by
 rw[u]at h;have h1:(cut s.data.toList)[k]?=Ts x:=by
  have:=congrArg (fun l=>l[0]?) h;simpa using this
 have o:=(UU.1 h1).1;have p:=congrArg List.length h;simp at p;refine⟨h1,?_,Ph⟩;rw[<-List.drop_drop,h];rfl
def xK(s:ByteArray)(b)(z:s.size<=9223372036854775807):
  NH UB 312 #[UK (Ts ⟨b+1,0,U8⟩),UK (Ts ⟨b,0,U8⟩),UK (Ts ⟨b+2,0,U8⟩)] AF (cut s.data.toList)
   (fun W=>VX W b 9 (UH s)/\VX W (b+1) 9 (UH ⟨#[46]⟩)/\VX W (b+2) 3 (Ti Tl 0))
   (fun k=>k=b) (fun k=>k=b\/k=b+1\/k=b+2):=by
 intro l J Jx W A O C N L;refine callsIn_of_wp func312 rfl trivial ?_ rfl;simp only[ntmps312,WG,Up,VJ,VO,YI,WX,WY,XF,Wi,Vd,Vu];have x:=Tn A;obtain⟨F,E,t⟩:=A;have c0:=F.cell;have c1:=E.cell;have c2:=t.cell;have hsz:b+2<W.heap.size:=t.lt;refine P3 O N L fun HJ X H0=>?_;gi_wp2
 gi_loopw [7] (fun i wr=>∃(k:Nat)(r:ByteArray),r.size<=s.size/\(cut s.data.toList).drop k=cut r.data.toList/\VX wr b 9 (UH r)/\VX wr (b+1) 9 (UH ⟨#[46]⟩)/\VX wr (b+2) 3 (Ti Tl 0)/\J k wr) (fun _ wr=>G9 wr b)
 case atStart=>exact⟨0,s,UY _,rfl,x.1,x.2.1,x.2.2,H0⟩
 obtain⟨k,r,u,hcut,g,g1,g2,Q⟩:=hrel;refine P4 hcut Q fun j S=>have d0:=g.cell;have d1:=g1.cell;have d2:=g2.cell;P3 g g1 g2 fun T Y G2=>?_;rcases(show XS r.data.toList 46<0\/0<=XS r.data.toList 46 from Ph)with D|q
 .have c:XS r.data.toList 46=-1:=by have:=Lib.indexByte_ge r.data.toList 46;omega
  obtain⟨m,y,p⟩:=NM j (rU _ c);refine P3 m p c fun I H M=>?_;obtain⟨fn,tmps,assign,body,U,B⟩:=X.out k _ wr I S;have Z:=Tn B;unfold AF at U;rw[aiM]at U;gi_wp2_with (gi_at_call 281;refine(Vn.2 (zy _ _ M _)).mono ?_;rintro e w'⟨rfl,rfl⟩)
  refine Z.out.mono ?_;rintro e G(⟨rfl,f,o⟩|⟨rfl,d⟩)
  .gi_wp2
   go_end0
   exact⟨⟨_,rfl⟩,.inl (by rw[H.out];exact f)⟩
  gi_wp2
  go_end0
  exact⟨⟨_,rfl⟩,.inr ⟨k+1,by rw[H.out];simp,d⟩⟩
 obtain⟨i,c⟩:=Int.eq_ofNat_of_zero_le q;have R:=aaW c;rw[<-YW]at R;obtain⟨m,y,p⟩:=NM j (rM _ i c);refine P5 m p c y fun I H M HD=>?_;obtain⟨fn,tmps,assign,body,U,B⟩:=X.out k _ wr I S;have Z:=Tn B;unfold AF at U;rw[<-Ic]at U;gi_wp2_with (gi_at_call 281;refine(Vn.2 (zy _ _ M _)).mono ?_;rintro e w'⟨rfl,rfl⟩)
 refine Z.out.mono ?_;rintro e G(⟨rfl,f,o⟩|⟨rfl,d⟩)
 .have g:=o.boxed T Pm;have g1:=o.boxed Y Pm;have g2:=o.boxed G2 Pm;have e0:=g.cell;have am:=g1.cell;have e2:=g2.cell;have f0:=g.frozen;refine P5 g g1 g2 f fun V K1 K2 K=>?_;gi_wp2
  go_roundw
  case rel=>
   have P:Fr (fun k=>k=b) G (G.setCell ⟨b,0,U8⟩ (UH (r.extract (i+1) r.size))):=Uz G ⟨b,0,U8⟩ _ rfl;exact⟨k+1,r.extract (i+1) r.size,Pp,by rw[IZ];exact HD.out,V.set _,P.boxed K1 Ph,P.boxed K2 Ph,HJ _ _ _ K P⟩
  rw[qP (V.set _),qP T.out];simp;omega
 gi_wp2
 refine bodyPost_ret (results_none rfl _ _ _) rfl ?_;exact⟨⟨_,rfl⟩,.inr ⟨k+1,Zfx,d⟩⟩
def Hy{b c}(h:c<s.size\/b<=YY s.data.toList 46):jH s.data.toList b c=false:=by
 have:=gK s.data.toList;rw[YW]at h;unfold jH;rcases h with h|h
 .rw[decide_eq_false Ph];rfl
 rw[decide_eq_false (p:=(cut s.data.toList).length<=b) Ph];simp
def OJ{b d}(h1:s.size<=d)(c:¬b<=YY s.data.toList 46):jH s.data.toList b d=(cut s.data.toList).all df:=by
 have:=gK s.data.toList;rw[YW]at h1;unfold jH;rw[decide_eq_true h1,decide_eq_true Ph];rfl
def afD{l:List au}{x:au}(h:l[k]?=Ts x)(m:df x=false):l.all df=false:=by
 rw[List.all_eq_false];exact⟨x,Uv h,by rw[m];simp⟩
def NK{l:List au}{x:au}(h:l[k]?=Ts x)(m:df x=true)(o:(l.take k).all df=true):(l.take (k+1)).all df=true:=by
 have b:=(UU.1 h);obtain⟨h1,c⟩:=b;rw[List.take_succ_eq_append_getElem h1,List.all_append,o,c];simp[m]
def lp:∀(l:au)(x:au),x∈cut l->x.length<=l.length
 |[],x,h=>by simp[cut]at h;simp[h]
 |c::t,x,h=>by
  unfold cut at h;split at h
  .rcases VN.1 h with rfl|h
   .simp
   have:=lp t x h;simp;omega
  split at h
  .simp at h;simp[h]
  rename_i L d b
  rcases VN.1 h with rfl|h
  .have:=lp t L (by rw[b];simp);simp;omega
  have:=lp t x (by rw[b];simp[h]);simp;omega
def Gb{x:au}(z:s.size<=9223372036854775807)(h:(cut s.data.toList)[k]?=Ts x):(⟨x.toArray⟩:ByteArray).size<=9223372036854775807:=by
 have:=lp _ x (Uv h);rw[<-YW]at this;show x.toArray.size<=_
 simp;omega
def abL(s:ByteArray)(c d:Nat)(w:UN)(e:Ending)(b:UN):Prop:=e=UO (U1 (jH s.data.toList c d))/\aq w b
def Cs(s:ByteArray)(j q:Nat)(w)(z:s.size<=9223372036854775807)(_:q<=1000)(_:j<=1000):
  VB UB 238 #[UH s,Ti Tl j,Ti Tl q] w (abL s j q w):=by
 refine(Vn (n:=0)).1 ?_;refine callsIn_of_wp_marks func238 rfl trivial ?_ rfl;simp only[ntmps238,WG,Up,VJ,VO,YI,WX,WY,XF,Wi,Vd,Vu];gi_wp2_with (first|(gi_at_call 277;refine(Vn.2 (Jq _ _)).mono ?_;rintro e w'⟨rfl,rfl⟩)|(gi_at_call 278;refine(Vn.2 (Ar _ _ _)).mono ?_;rintro e w'⟨rfl,rfl⟩))
 .have h:j<=YY s.data.toList 46:=by omega
  exact⟨U1 false,XQ,by rw[Hy (.inr h)],P0.alloc (UY _) _⟩
 .have h1:s.size<=q:=by assumption
  have G:¬j<=YY s.data.toList 46:=Ph;have Hn:=Tn (OJ h1 G);refine P1 ((((w.alloc (Tq #[U1 false] 4)).alloc (Tq #[UH s] 9)).alloc (Tq #[UH {data:=#[46]}] 9)).alloc (Tq #[Ti Tl 0] 3)) fun f d=>?_;have V:Below w.heap.size w f:=by rw[<-d];exact(((P0.alloc (UY _) _).alloc Pm _).alloc Pp _).alloc Pp _
  have b0:VX f w.heap.size 4 (U1 false):=Rq;have b1:VX f (w.heap.size+1) 9 (UH s):=by rw[<-d];have:=((Wt (w.alloc (Tq #[U1 false] 4)) 9 (UH s)).alloc (Tq #[UH {data:=#[46]}] 9)).alloc (Tq #[Ti Tl 0] 3);rwa[Ud]at this
  have b2:VX f (w.heap.size+1+1) 9 (UH ⟨#[46]⟩):=by rw[<-d];have:=(Wt ((w.alloc (Tq #[U1 false] 4)).alloc (Tq #[UH s] 9)) 9 (UH ⟨#[46]⟩)).alloc (Tq #[Ti Tl 0] 3);rwa[Ud,Ud]at this
  have Q:VX f (w.heap.size+1+2) 3 (Ti Tl 0):=by rw[<-d];have:=Wt (((w.alloc (Tq #[U1 false] 4)).alloc (Tq #[UH s] 9)).alloc (Tq #[UH {data:=#[46]}] 9)) 3 (Ti Tl 0);rwa[Ud,Ud,Ud]at this
  have F:f.heap.size=w.heap.size+4:=Zbf;rw[d];clear d;have E:=Tn F;clear F;have F:=E.out;refine sq rfl (enters_of func312 Pg rfl) (xK s (w.heap.size+1) z)
   (fun o1 o2=>⟨(b1.alloc _).alloc _,(b2.alloc _).alloc _,(Q.alloc _).alloc _⟩) (fun b hb=>Ph) (fun b hb=>Ph) (fun x=>rfl)
   (fun b=>b=w.heap.size) (fun b hb=>Ph) (fun b hb=>Ph)
   (fun k W=>((cut s.data.toList).take k).all df=true/\VX W w.heap.size 4 (U1 false)/\Below w.heap.size w W)
   (fun c k W=>c= .ret/\(cut s.data.toList).all df=false/\VX W w.heap.size 4 (U1 false)/\Below w.heap.size w W)
   ?stI ?stX ⟨rfl,b0,V⟩ ?round ?done ?stop
  case stI=>
   intro k A B ⟨h1,G,M⟩ cf;exact⟨h1,cf.boxed G Ph,M.trans (cf.below M.size Ph)⟩
  case stX=>
   intro c k A B ⟨L,h1,G,M⟩ cf;exact⟨L,h1,cf.boxed G Ph,M.trans (cf.below M.size Ph)⟩
  case round=>
   rintro l k x W m rfl hW⟨y,r,t⟩;have T:=Tn m;clear m F;have O:=Gb z T;unfold AF;gi_wp2
   refine⟨Fr.refl _ _,⟨y,r,t⟩,?_⟩;rintro Wb⟨j1,j2,j3⟩cf U;have J1:=Tn j1;clear j1;have J:=j2.cell;have R:=j2.frozen;have H2:=Tn j2;clear j2 y r t cf U hW;gi_wp2_with (gi_at_call 279;refine(CallsIn.inRound _ (Vn.2 (Jw _ _ O))).mono ?_;rintro e I⟨rfl,g⟩;have q2:=aC g H2;have hc2:=q2.cell;have hf2:=q2.frozen;have Y:=Tn q2;clear q2)
   .have X:(!df x)=true:=by assumption
    have K:Fr (fun b=>b=w.heap.size) Wb (I.setCell ⟨w.heap.size,0,U8⟩ (U1 false)):=(Uh g).trans (Uz _ _ _ rfl);exact⟨K,rfl,afD T Zdc,Y.set _,j3.trans (K.below j3.size Ph)⟩
   have X:(!df x)=false:=by assumption
   exact⟨Uh g,NK T Zdc J1,Y,j3.trans (g.mono j3.size)⟩
  case done=>
   intro W ⟨y,r,t⟩ H;have u:jH s.data.toList j q=true:=by rw[Hn.out,<-y,Yi]
   have J:=r.cell;have R:=r.frozen;refine P3 r u H fun HB Z S=>?_;clear y r u H F b0 b1 b2 Q V;gi_wp2
   have P:(W.setCell ⟨w.heap.size,0,U8⟩ (U1 true)).heap[f.heap.size]?=Ts (.deferred (Ts [])):=(Below.heap_setCell _ _ _ _ (by have:=E.out;simp;omega)).trans S;have N:=jQ (HB.set (U1 true)) (D:=f.heap.size) Rn (.deferred U8);have C:=N.cell;refine dB P (v:=U1 true) XA ⟨by rw[Z.out],?_⟩;exact fN (t.setCell (p:=⟨w.heap.size,0,U8⟩) (UY _) _) Rn (by have:=t.size;simp[World.setCell];omega) _
  rintro c k W o⟨rfl,y,r,t⟩H;have u:jH s.data.toList j q=false:=by rw[Hn.out,y]
  have N:=jQ r (D:=f.heap.size) Rn (.deferred U8);have C:=N.cell;refine P3 u H C fun Z S HQ=>?_;clear y r u H F b0 b1 b2 Q V C;gi_wp2
  have C:=HQ.out;refine dB S (v:=U1 false) XA ⟨by rw[Z.out],?_⟩;exact fN t Rn (by have:=t.size;omega) _
 have h:q<s.size:=by omega
 exact⟨U1 false,XQ,by rw[Hy (.inl h)],P0.alloc (UY _) _⟩
def Ik(l:au):(⟨l.toArray⟩:ByteArray).size=l.length:=by rw[YW]
def AR(s:ByteArray)(w:UN)(z:s.size<=9223372036854775807):
  VB UB 198 #[UH s] w (bM (U1 (gX s.data.toList)) w):=by
 go_enter func198,ntmps198;go_wp2_with (go_at_call 238;refine P2 (Cs s 8 64 _ z Ph Ph) fun b g=>?_)
 go_ret;exact⟨rfl,g⟩
def zq(s:ByteArray)(w:UN)(z:s.size<=9223372036854775807):
  VB UB 190 #[UH s] w (bM (Ti Tl (rP 110 (gX s.data.toList))) w):=by
 go_enter func190,ntmps190;go_wp2_with (first|(go_at_call 198;refine P2 (AR s _ z) fun b g=>?_)|(go_at_call 230;refine(BA _ _).mono ?_;rintro e b⟨rfl,rfl⟩))
 go_ret;exact⟨rfl,g⟩
def nY(s:ByteArray)(w:UN)(b)(h:Yw s.data.toList [42,46]=b):
  VB UB 66 #[UH s,UH ⟨#[42,46]⟩] w fun e d=>e=UO (UW #[UH ⟨(if b then s.data.toList.drop 2 else s.data.toList).toArray⟩,U1 b])/\w=d:=
 (strings_CutPrefix s ⟨#[42,46]⟩ w).mono fun e d⟨h1,c⟩=>⟨by rw[h1];simp[Lib.trimPrefix,h],c.symm⟩
def CQ(s:ByteArray)(w:UN)(z:s.size<=9223372036854775807):
  VB UB 264 #[UH s] w (bM (UW #[UH ⟨(dy s.data.toList).1.toArray⟩,U1 (dy s.data.toList).2.1,U1 (dy s.data.toList).2.2]) w):=by
 have y:(⟨(s.data.toList.drop 2).toArray⟩:ByteArray).size<=9223372036854775807:=by
  rw[Ik,List.length_drop,<-YW];omega
 have x:∀b,Yw s.data.toList [42,46]=b->gX s.data.toList=false->dy s.data.toList=if b then(s.data.toList.drop 2,true,jH (s.data.toList.drop 2) 7 62)else(s.data.toList,false,false):=by
  intro b h1 c;unfold dy;rw[c,h1];rfl
 have N:gX s.data.toList=true->dy s.data.toList=(s.data.toList,false,true):=by
  intro h;unfold dy;rw[if_pos h]
 refine P4 x N fun f l=>?_;cases hb:Yw s.data.toList [42,46];all_goals
  have d:=Tn hb
  go_enter func264,ntmps264
  go_wp2_with (first|(go_at_call 198;refine P2 (AR s _ z) fun j g=>?_)|(go_at_call 66;refine(nY _ _ _ d).mono ?_;rintro e j⟨rfl,rfl⟩)|(go_at_call 238;refine P2 (Cs _ 7 62 _ y Ph Ph) fun j D=>?_))
 .exact Zy
 .have h:gX s.data.toList=false:=by assumption
  go_ret3
  exact⟨by rw[f.out _ d.out h,if_neg Pm,aiM];rfl,g⟩
 .exact Zy
 have h:gX s.data.toList=false:=by assumption
 go_ret3
 exact⟨by rw[f.out _ d.out h,if_pos rfl];rfl,aa g D⟩
def tH(s:ByteArray)(w:UN)(z:s.size<=9223372036854775807):
  VB UB 231 #[UH s] w (bM (Ti Tl (rP 110 (dy s.data.toList).2.2)) w):=by
 go_enter func231,ntmps231;go_wp2_with (first|(go_at_call 264;refine P2 (CQ s _ z) fun b g=>?_)|(go_at_call 230;refine(BA _ _).mono ?_;rintro e b⟨rfl,rfl⟩))
 go_ret;exact⟨rfl,g⟩
def xB(w:UN):Prop:=∃m,w.cell? ⟨3,0,U8⟩=Ts (Ti Tl m)
def aR{p}(h:w.cell? p=Ts v):p.block<w.heap.size:=by
 exact UP
def xB.ext(h:xB w)(g:aq w b):xB b:=by
 obtain⟨m,K⟩:=h;exact⟨m,(g.cell (aR K)).trans K⟩
end
def iI(l:List ByteArray)(s:ByteArray):Bool:=l.any fun y=>y.data.toList==s.data.toList
def ez{a b:ByteArray}(h:a.data.toList=b.data.toList):a=b:=by
 obtain⟨⟨a⟩⟩:=a;obtain⟨⟨b⟩⟩:=b;simp at h;subst h;rfl
def ix:iI l s=true↔s∈l:=by
 unfold iI;rw[List.any_eq_true];constructor
 .rintro⟨y,U,h⟩;rw[beq_iff_eq]at h;rwa[<-ez h]
 exact fun h=>⟨s,h,Pm⟩
def yv(l)(y s:ByteArray):iI (l++[y]) s=(iI l s||(y.data.toList==s.data.toList)):=by simp[iI]
structure b7 where
 name:ByteArray
 allow:Bool
 pats:List ByteArray
 keyMin:Int
 lifeMax:Int
 most:Int
 window:Int
def agZ(c:Int):Bool:=(decide (97<=c)&&decide (c<=122))||(decide (48<=c)&&decide (c<=57))
def lC(c:Int):Bool:=agZ c||c==45
def nN(s:au):Bool:=decide (1<=s.length)&&decide (s.length<=16)&&s.all fun c=>lC (c.toNat:Int)
def vk(p:ByteArray):Bool:=(dy p.data.toList).2.2
def fh:List ByteArray->List ByteArray->Bool
 |_,[]=>true
 |ahead,p::l=>vk p&& !iI ahead p&&fh (ahead++[p]) l
def mU(r:b7):Bool:=
 if r.allow then decide (r.keyMin<=2305843009213691579)&&(decide (1<=r.lifeMax)&&decide (r.lifeMax<=1000))&&(decide (0<=r.most)&&decide (r.most<=1000))&&
  (if r.most>0 then decide (1<=r.window)&&decide (r.window<=1099511627776)else r.window==0)
 else r.keyMin==0&&r.lifeMax==0&&r.most==0&&r.window==0
def lR(r:b7):Bool:=nN r.name.data.toList&&(decide (1<=r.pats.length)&&decide (r.pats.length<=8))&&fh [] r.pats&&mU r
def dI:List ByteArray->List b7->Bool
 |_,[]=>true
 |ahead,r::l=>lR r&& !iI ahead r.name&&dI (ahead++[r.name]) l
def gG(l:List b7):Int:=if dI [] l then(if l.length<=32 then 0 else 2)else 1
def tZ:∀(l a:List ByteArray)(p:ByteArray),fh a (l++[p])=(fh a l&&(vk p&& !iI (a++l) p))
 |[],a,p=>by simp[fh]
 |x::l,a,p=>by
  rw[Vu,fh,fh,tZ l (a++[x]) p];simp[YS]
def rR:∀(l:List b7)(a:List ByteArray)(r:b7),dI a (l++[r])=(dI a l&&(lR r&& !iI (a++l.map (·.name)) r.name))
 |[],a,p=>by simp[dI]
 |x::l,a,p=>by
  rw[Vu,dI,dI,rR l (a++[x.name]) p];simp[YS]
def tt(h:l[k]?=Ts p):fh [] (l.take (k+1))=(fh [] (l.take k)&&(vk p&& !iI (l.take k) p)):=by
 rw[Xk,h,Option.toList_some,tZ,Vd]
def rW{l:List b7}{r}(h:l[k]?=Ts r):dI [] (l.take (k+1))=(dI [] (l.take k)&&(lR r&& !iI ((l.take k).map (·.name)) r.name)):=by
 rw[Xk,h,Option.toList_some,rR,Vd]
def Ai:∀{k:Nat},fh [] (l.take k)=false->fh [] l=false:=fun{k}h=>by
 by_cases o:k<l.length
 .have key:∀(m:Nat),fh [] (l.take (k+m))=false:=fun m=>by
   induction m with
   |zero=>exact h
   |succ m b=>
    by_cases K:k+m<l.length
    .rw[show k+(m+1)=k+m+1 from rfl,tt (V8 K),b];rfl
    exact Uq
  exact UC
 exact Zci
def xE{l:List b7}:∀{k:Nat},dI [] (l.take k)=false->dI [] l=false:=fun{k}h=>by
 by_cases o:k<l.length
 .have key:∀(m:Nat),dI [] (l.take (k+m))=false:=fun m=>by
   induction m with
   |zero=>exact h
   |succ m b=>
    by_cases K:k+m<l.length
    .rw[show k+(m+1)=k+m+1 from rfl,rW (V8 K),b];rfl
    exact Uq
  exact UC
 exact Zci
def ae{b o:Nat}(h:w.cell? ⟨b,o,U8⟩=Ts v)(g:aq w c):c.cell? ⟨b,o,U8⟩=Ts v:=(g.cell (p:=⟨b,o,U8⟩) (aR h)).trans h
def OA:pD ByteArray:=fun w b o s=>w.cell? ⟨b,o,U8⟩=Ts (UH s)/\s.size<=VL
instance:mj OA where
 ext:=fun h hE=>⟨ae h.1 hE,h.2⟩
abbrev js(w:UN)(a:Option Addr)(l:List ByteArray):Prop:=cr 1 OA w a l
def CO:pD b7:=fun w b o r=>
 w.cell? ⟨b,o,U8⟩=Ts (UH r.name)/\w.cell? ⟨b,o+1,U8⟩=Ts (U1 r.allow)/\
 (∃a c,w.cell? ⟨b,o+2,U8⟩=Ts (Tm a r.pats.length c)/\r.pats.length<=c/\c<=VL/\js w a r.pats)/\
 w.cell? ⟨b,o+3,U8⟩=Ts (Ti Tt r.keyMin)/\w.cell? ⟨b,o+4,U8⟩=Ts (Ti Tl r.lifeMax)/\w.cell? ⟨b,o+5,U8⟩=Ts (Ti Tl r.most)/\w.cell? ⟨b,o+6,U8⟩=Ts (Ti Tl r.window)/\
 r.name.size<=VL/\0<=r.keyMin
instance:mj CO where
 ext:=fun{w w' b o r}h hE=>by
  obtain⟨h0,h1,⟨a,c,h2,l1,l2,h2'⟩,h3,h4,h5,h6,h7,h8⟩:=h
  exact⟨ae h0 hE,ae h1 hE,⟨a,c,ae h2 hE,l1,l2,h2'.ext hE⟩,ae h3 hE,ae h4 hE,ae h5 hE,ae h6 hE,h7,h8⟩
def ahZ(r:b7)(a:Option Addr)(c:Nat):UV:=Value.agg #[UH r.name,U1 r.allow,Tm a r.pats.length c,Ti Tt r.keyMin,Ti Tl r.lifeMax,Ti Tl r.most,Ti Tl r.window]
abbrev qz(w:UN)(a:Option Addr)(l:List b7):Prop:=cr 7 CO w a l
def mK:ByteArray:=⟨#[97,98,99,100,101,102,103,104,105,106,107,108,109,110,111,112,113,114,115,116,117,118,119,120,121,122,48,49,50,51,52,53,54,55,56,57,45]⟩
def Cw:∀c:UInt8,mK.data.toList.contains c=lC (c.toNat:Int):=by
 have h:∀n:Fin 256,mK.data.toList.contains (VI n.val)=lC ((VI n.val).toNat:Int):=Pj;intro c;have:=h ⟨c.toNat,c.toNat_lt⟩;simpa using this
def xo{p:UInt8->Bool}:∀{l:List UInt8},l.dropWhile p=[]↔∀c∈l,p c=true
 |[]=>Pm
 |c::l=>by
  rw[List.dropWhile_cons];split
  .rename_i h;rw[xo];simp[h]
  rename_i h;simp[h]
def Mf(l:au):Lib.trimS l mK.data.toList=[]↔∀c∈l,lC (c.toNat:Int)=true:=by
 have x:(fun c=>mK.data.toList.contains c)=fun c:UInt8=>lC (c.toNat:Int):=funext Cw;unfold Lib.trimS Lib.trimLeftS Lib.trimRightS;rw[x,xo];constructor
 .intro h c J;by_cases y:(l.reverse.dropWhile fun c:UInt8=>lC (c.toNat:Int))=[]
  .exact xo.1 y c (by simpa using J)
  exfalso;have zs:(l.reverse.dropWhile fun c:UInt8=>lC (c.toNat:Int)).head y∈(l.reverse.dropWhile fun c:UInt8=>lC (c.toNat:Int)).reverse:=Pm;have h1:=h _ zs;have b:=List.head_dropWhile_not (fun c:UInt8=>lC (c.toNat:Int)) y;rw[h1]at b;cases b
 intro h c J;refine h c ?_;have h1:c∈l.reverse.dropWhile fun c:UInt8=>lC (c.toNat:Int):=by simpa using J
 have:=(List.dropWhile_sublist _).subset h1;simpa using this
def xR(s:ByteArray):nN s.data.toList=(!(s.toList.isEmpty)&&decide ((s.size:Int)<=16)&&(Lib.trimS s.data.toList mK.data.toList).isEmpty):=by
 rw[Lib.toList_data,YH];unfold nN;simp only[Bool.and_eq_true,decide_eq_true_eq,List.all_eq_true,Bool.not_eq_true',List.isEmpty_iff];rw[Mf,<-YW];have:s.data.toList.isEmpty=false↔1<=s.size:=by
  rw[YW];cases s.data.toList<;>simp
 rw[this];constructor
 .exact Zcy
 exact Zcy
def oY(s:ByteArray)(w:UN)(z:s.size<=VL):
  VB UB 234 #[UH s] w (bM (U1 (nN s.data.toList)) w):=by
 unfold VL at z;have Z:=Tn (xR s);have d:∀b,VB UB 266 #[UH s,UH ⟨#[97,98,99,100,101,102,103,104,105,106,107,108,109,110,111,112,113,114,115,116,117,118,119,120,121,122,48,49,50,51,52,53,54,55,56,57,45]⟩] b (bM (UH ⟨(Lib.trimS s.data.toList mK.data.toList).toArray⟩) b):=fun b=>
  (Any.strings_Trim_laid lays160 Pg s mK b z Pi (ascii_of_all Pi)).mono fun _ _ h=>h
 have j:=Tn d;go_enter func234,ntmps234;go_upto_region 1 with fail;refine aG (fun b=>aq w b) P0 ?_;repeat
  (first|refine az rfl rfl rfl rfl ?_|refine aF rfl rfl rfl rfl ?_|refine aw rfl ?_|refine aj rfl rfl rfl rfl rfl ?_|((first|refine av (v:=?_) rfl rfl (fun hb b l=>?_) ?_|refine ar (v:=?_) rfl rfl rfl (fun m hb b l=>?_) ?_|refine ax (v:=?_) rfl (fun b l=>?_) ?_);rotate_left;(focus(skip;unfold ak;go_simp;first|exact aD l|(refine(j _).mono ?_;rintro e f⟨rfl,c⟩;exact aH (aa l c))))))
  simp only[Ua,P7]
 refine aA fun b g=>?_;go_wp2;go_ret;exact⟨bV (by rw[Z.out]),g⟩
def iN(n a b:Int)(w:UN):
  VB UB 233 #[Ti Tl n,Ti Tl a,Ti Tl b] w fun e c=>e=UO (U1 (decide (a<=n)&&decide (n<=b)))/\w=c:=by
 go_enter func233,ntmps233;go_upto_region 1 with fail;refine aG (fun c=>w=c) rfl ?_;repeat
  (first|refine az rfl rfl rfl rfl ?_|refine aF rfl rfl rfl rfl ?_|refine aw rfl ?_|refine aj rfl rfl rfl rfl rfl ?_|((first|refine av (v:=?_) rfl rfl (fun hb c l=>?_) ?_|refine ar (v:=?_) rfl rfl rfl (fun d hb c l=>?_) ?_|refine ax (v:=?_) rfl (fun c l=>?_) ?_);rotate_left;(focus(subst l;unfold ak;go_simp;first|exact aD rfl))))
  simp only[Ua,P7]
 refine aA fun c g=>?_;subst g;exact Tr
def Et{b off:Nat}(h:js w (Ts ⟨b,off,U8⟩) l):∀j,j<l.length->w.cell? ⟨b,off+j,U8⟩=Ts (UH (l.getD j ByteArray.empty)):=fun j Q=>by
 obtain⟨f,d,c,h1,_⟩:=h j _ (V8 Q);cases c;rw[XT]at h1;rw[h1,List.getD_eq_getElem?_getD,V8 Q];rfl
def wT(l x):Lib.containsS l x=iI l x:=by
 rw[YH,Lib.containsS_iff,ix]
def Ge(r:b7):(if r.allow then(decide (r.keyMin<=2305843009213691579)&&(decide (1<=r.lifeMax)&&decide (r.lifeMax<=1000))&&(decide (0<=r.most)&&decide (r.most<=1000)))&&
  (if r.most>0 then decide (1<=r.window)&&decide (r.window<=1099511627776)else r.window==0)else r.keyMin==0&&r.lifeMax==0&&r.most==0&&r.window==0)=mU r:=rfl
def EW(r:b7)(a c w)(T:r.pats.length<=c)(S:c<=VL)(hl:js w a r.pats)(z:r.name.size<=VL):
  VB UB 192 #[ahZ r a c] w (bM (U1 (lR r)) w):=by
 have M:=Tn z;unfold VL at S;refine P1 r.pats.length fun n hn=>P4 hn hl fun L HL=>?_;unfold ahZ;rw[hn]at T⊢;go_enter func192,ntmps192;go_wp2_with fail;refine P1 (w.alloc (Tq #[UH r.name,U1 r.allow,Tm a n c,Ti Tt r.keyMin,Ti Tl r.lifeMax,Ti Tl r.most,Ti Tl r.window] 75)) fun f d=>have H:aq w f:=Pq;have c0:f.cell? ⟨w.heap.size,0,U8⟩=Ts (UH r.name):=Pw;have c1:f.cell? ⟨w.heap.size,1,U8⟩=Ts (U1 r.allow):=Pw;have c2:f.cell? ⟨w.heap.size,2,U8⟩=Ts (Tm a n c):=Pw;have c3:f.cell? ⟨w.heap.size,3,U8⟩=Ts (Ti Tt r.keyMin):=Pw;have c4:f.cell? ⟨w.heap.size,4,U8⟩=Ts (Ti Tl r.lifeMax):=Pw;have c5:f.cell? ⟨w.heap.size,5,U8⟩=Ts (Ti Tl r.most):=Pw;have Z:f.cell? ⟨w.heap.size,6,U8⟩=Ts (Ti Tl r.window):=Pw;?_;rw[d];refine P8 H c0 c1 c2 c3 c4 c5 Z fun B C0 C1 C2 C3 C4 C5 C6=>?_;go_loopw [10] (fun i wr=>∃k:Nat,k<=n/\i=Ti Tl k/\fh [] (r.pats.take k)=true/\aq f wr) (fun i _=>n-(intOf i).toNat)
 case atStart=>exact⟨0,VF _,rfl,rfl,P0⟩
 obtain⟨k,o,rfl,F,j⟩:=hrel;have V:=Tn F;by_cases R:k<n
 .obtain⟨p,F⟩:=ay L R;obtain⟨b,off,rfl,d0,X⟩:=(HL.ext (aa B j)) k p F;rw[XT]at d0;have c2:=ae C2 j;refine P3 (tt F) (HL.ext (aa B j)) j fun HT P G=>have Q:p.size<=9223372036854775807:=X;have hkc:k<=c:=Ph;?_;go_upto_region 4 with fail;refine aG (fun g=>aq wr g) P0 ?_;repeat
   (first|refine az rfl rfl rfl rfl ?_|refine aF rfl rfl rfl rfl ?_|refine aw rfl ?_|refine aj rfl rfl rfl rfl rfl ?_|((first|refine av (v:=?_) rfl rfl (fun hb g l=>?_) ?_|refine ar (v:=?_) rfl rfl rfl (fun u hb g l=>?_) ?_|refine ax (v:=?_) rfl (fun g l=>?_) ?_);rotate_left;(focus(have O:=ae c2 l;unfold ak;go_simp;first|exact aD l|(refine(tH _ _ Q).mono ?_;rintro e t⟨rfl,D⟩;exact aH (aa l D))|(refine(slices_Contains_string b off k c r.pats p _ (by rw[L.out];omega) Ph (Et (P.ext l))).mono ?_;rintro e t⟨rfl,rfl⟩;exact aH l)))))
   simp only[Ua,P7]
  refine aA fun g C=>?_;rw[wT];have J:Hid ((rP 110 (dy p.data.toList).2.2 !=0)= !vk p):=Tn (by unfold vk;cases (dy p.data.toList).2.2<;>rfl);cases N:((rP 110 (dy p.data.toList).2.2 !=0)||iI (r.pats.take k) p)
  .have W:=Tn (show fh [] (r.pats.take (k+1))=true by
    rw[HT.out,V.out];rw[J.out]at N;simp only[YT,YD]at N
    rw[N.1,N.2];rfl)
   go_wp2;go_roundw
   case rel=>exact⟨k+1,Ph,Pt,W,aa G C⟩
   case measure=>simp[intOf];omega
  have W:=Tn (show lR r=false by
   have:fh [] (r.pats.take (k+1))=false:=by
    rw[HT.out,V.out];rw[J.out]at N;exact Tx
   unfold lR;rw[Ai this];simp)
  go_wp2_with fail;all_goals
   go_ret
   exact⟨bV W.symm,aa B (aa G C)⟩
 obtain rfl:k=n:=by omega
 have I:fh [] r.pats=true:=by have:=V.out;rwa[<-L.out,Yi]at this
 have A:=Tn (show lR r=(nN r.name.data.toList&&(decide (1<=(k:Int))&&decide ((k:Int)<=8))&&mU r) by
  unfold lR;rw[I,L.out,Bool.and_true,show decide (1<=(k:Int))=decide (1<=k)from QC,show decide ((k:Int)<=8)=decide (k<=8)from QC])
 have c0:=ae C0 j;have c1:=ae C1 j;have c2:=ae C2 j;have c3:=ae C3 j;have c4:=ae C4 j;have c5:=ae C5 j;have Z:=ae C6 j;refine P4 (aa B j) (Ge r) fun E s=>?_;go_upto_region 8 with fail;refine aG (fun g=>g=wr) rfl ?_;repeat
  (first|refine az rfl rfl rfl rfl ?_|refine aF rfl rfl rfl rfl ?_|refine aw rfl ?_|refine aj rfl rfl rfl rfl rfl ?_|((first|refine av (v:=?_) rfl rfl (fun hb g l=>?_) ?_|refine ar (v:=?_) rfl rfl rfl (fun u hb g l=>?_) ?_|refine ax (v:=?_) rfl (fun g l=>?_) ?_);rotate_left;(focus(subst l;unfold ak;go_simp;first|exact aD rfl|(refine(iN _ _ _ _).mono ?_;rintro e t⟨rfl,rfl⟩;exact aH rfl)))))
  simp only[Ua,P7]
 refine aA fun g C=>?_;subst C;by_cases K:0<r.most
 .go_upto_region 10 with fail;refine aG (fun x=>x=g) rfl ?_;repeat
   (first|refine az rfl rfl rfl rfl ?_|refine aF rfl rfl rfl rfl ?_|refine aw rfl ?_|refine aj rfl rfl rfl rfl rfl ?_|((first|refine av (v:=?_) rfl rfl (fun hb g l=>?_) ?_|refine ar (v:=?_) rfl rfl rfl (fun u hb g l=>?_) ?_|refine ax (v:=?_) rfl (fun g l=>?_) ?_);rotate_left;(focus(subst l;unfold ak;go_simp;first|exact aD rfl|(refine(iN _ _ _ _).mono ?_;rintro e t⟨rfl,rfl⟩;exact aH rfl)))))
   simp only[Ua,P7]
  refine aA fun x m=>?_;subst m;cases q:r.allow
  .exact SV
  rw[q]at c1;have s:=Tn (show(decide (r.keyMin<=2305843009213691579)&&(decide (1<=r.lifeMax)&&decide (r.lifeMax<=1000))&&(decide (0<=r.most)&&decide (r.most<=1000))&&(decide (1<=r.window)&&decide (r.window<=1099511627776)))=mU r by rw[<-s.out,if_pos q,if_pos (show r.most>0 from K)]);exact Su
 go_upto_region 11 with fail;refine aG (fun x=>x=g) rfl ?_;repeat
  (first|refine az rfl rfl rfl rfl ?_|refine aF rfl rfl rfl rfl ?_|refine aw rfl ?_|refine aj rfl rfl rfl rfl rfl ?_|((first|refine av (v:=?_) rfl rfl (fun hb g l=>?_) ?_|refine ar (v:=?_) rfl rfl rfl (fun u hb g l=>?_) ?_|refine ax (v:=?_) rfl (fun g l=>?_) ?_);rotate_left;(focus(subst l;unfold ak;go_simp;first|exact aD rfl))))
  simp only[Ua,P7]
 refine aA fun x m=>?_;subst m;cases q:r.allow
 .exact SV
 rw[q]at c1;have s:=Tn (show(decide (r.keyMin<=2305843009213691579)&&(decide (1<=r.lifeMax)&&decide (r.lifeMax<=1000))&&(decide (0<=r.most)&&decide (r.most<=1000))&&r.window==0)=mU r by rw[<-s.out,if_pos q,if_neg (show¬r.most>0 from K)]);exact Su
section
open Go.Maps
abbrev zR(w:UN)(b:Nat)(m:List (ByteArray×UV)):Prop:=cW UB 9 UH (fun s:ByteArray=>s.size<=VL) w b m
def K8(m:List (ByteArray×UV))(l:List ByteArray):Prop:=∀s,(fi m s).getD (U1 false)=U1 (iI l s)
def K8.put{m}(h:K8 m l)(s):K8 (jn m s (U1 true)) (l++[s]):=fun b=>by
 rw[jW,yv];by_cases e:s=b
 .subst e;simp
 rw[if_neg e,h b,show(s.data.toList==b.data.toList)=false from by rw[beq_eq_false_iff_ne];exact fun c=>e (ez c),Bool.or_false]
def xN{α β:Type}{l:List α}{x:α}(h:l[k]?=Ts x)(f:α->β):(l.take (k+1)).map f=(l.take k).map f++[f x]:=by
 rw[Xk,h];simp
def qE(l:List b7)(a cap n w)(hn:l.length=n)(hnc:n<=cap)(Q:cap<=VL)(p:qz w a l):
  VB UB 128 #[Tm a n cap] w (bM (Ti Tl (gG l)) w):=by
 unfold VL at Q;refine P4 hn p fun P HL=>have E:vp UB 9 UH (fun s:ByteArray=>s.size<=VL):=uL underlying9;have hmm:= @run_makeMap UB;?_;go_enter func128,ntmps128;go_wp2_with fail;refine P1 (w.alloc (Obj.map #[] 0)) fun f d=>have j:aq w f:=Pq;?_;have m0:zR f w.heap.size []:=by rw[<-d];exact cW.made _ _ _ _ w
 refine P4 j m0 fun B M0=>?_;rw[d];go_loopw [9] (fun i wr=>∃(k:Nat)(m:List (ByteArray×UV)),k<=n/\i=Ti Tl k/\dI [] (l.take k)=true/\aq w wr/\zR wr w.heap.size m/\K8 m ((l.take k).map (·.name))) (fun i _=>n-(intOf i).toNat)
 case atStart=>exact⟨0,[],VF _,rfl,rfl,B,M0,fun _=>rfl⟩
 obtain⟨k,m,o,rfl,x,y,K,Y⟩:=hrel;refine P3 x K Y fun U HM Z=>?_;by_cases R:k<n
 .obtain⟨r,u⟩:=ay P R;obtain⟨b,off,rfl,d0,d1,⟨pa,pc,d2,l1,l2,L⟩,d3,d4,d5,d6,J,_⟩:=(HL.ext y) k r u;refine P9 (rW u) (xN u (·.name)) L J l2 y fun HT S W C L2 A=>have hkc:k<=cap:=Ph;?_;unfold VL at l2;go_upto_region 5 with fail;refine P1 (wr.alloc (Tq #[UH r.name,U1 r.allow,Tm pa r.pats.length pc,Ti Tt r.keyMin,Ti Tl r.lifeMax,Ti Tl r.most,Ti Tl r.window] 75)) fun f d=>have j:aq wr f:=Pq;have c0:f.cell? ⟨wr.heap.size,0,U8⟩=Ts (UH r.name):=Pw;have c1:f.cell? ⟨wr.heap.size,1,U8⟩=Ts (U1 r.allow):=Pw;have c2:f.cell? ⟨wr.heap.size,2,U8⟩=Ts (Tm pa r.pats.length pc):=Pw;have c3:f.cell? ⟨wr.heap.size,3,U8⟩=Ts (Ti Tt r.keyMin):=Pw;have c4:f.cell? ⟨wr.heap.size,4,U8⟩=Ts (Ti Tl r.lifeMax):=Pw;have c5:f.cell? ⟨wr.heap.size,5,U8⟩=Ts (Ti Tl r.most):=Pw;have c6:f.cell? ⟨wr.heap.size,6,U8⟩=Ts (Ti Tl r.window):=Pw;?_;rw[d];have B:=Tn j;refine aG (fun D=>aq f D) P0 ?_;repeat
   (first|refine az rfl rfl rfl rfl ?_|refine aF rfl rfl rfl rfl ?_|refine aw rfl ?_|refine aj rfl rfl rfl rfl rfl ?_|((first|refine av (v:=?_) rfl rfl (fun hb D g=>?_) ?_|refine ar (v:=?_) rfl rfl rfl (fun hb1 hb D g=>?_) ?_|refine ax (v:=?_) rfl (fun D g=>?_) ?_);rotate_left;(focus(have e0:=ae c0 g;have am:=ae c1 g;have e2:=ae c2 g;have e3:=ae c3 g;have e4:=ae c4 g;have e5:=ae c5 g;have e6:=ae c6 g;have elk:=((HM.ext (aa B g)).run_lookup (mt:=240) E underlying240 (z:=U1 false) Pg (k:=r.name) C).trans (congrArg (fun v=>Result.ok v D) (Z r.name));unfold ak;go_simp;first|exact aD g|(refine(EW r pa pc _ l1 L2 (W.ext (aa B g)) C).mono ?_;rintro e w''⟨rfl,c⟩;exact aH (aa g c))))))
   simp only[Ua,P7]
  refine aA fun D q=>?_;rw[<-List.map_take];cases N:(!lR r||iI ((l.take k).map (·.name)) r.name)
  .have V:=Tn (show dI [] (l.take (k+1))=true by
    rw[HT.out,U.out];simp only[YT,YD]at N
    rw[N.1,N.2];rfl)
   have I:=Tn q;have e0:=ae c0 q;have X:=Tn (HM.ext (aa B q));go_wp2_with (at_mapUpdate;refine cK rfl _ _ _ 240 rfl E underlying240 rfl X.out r.name _ rfl rfl C.out ?_;intro w1 G H O;refine P4 G H fun QM QF=>?_)
   go_roundw
   case rel=>exact⟨k+1,_,Ph,Pt,V,(aa A (aa B I)).trans (QF.below (aa A (aa B I)).size (fun k o=>Ph)),QM,by rw[S.out];exact Z.out.put r.name⟩
   case measure=>simp[intOf];omega
  have V:=Tn (show gG l=1 by
   have:dI [] (l.take (k+1))=false:=by
    rw[HT.out,U.out];exact Tx
   unfold gG;rw[xE this];rfl)
  go_wp2_with fail;all_goals
   go_ret
   exact⟨eu V.symm,aa A (aa B q)⟩
 obtain rfl:k=n:=by omega
 have T:dI [] l=true:=by have:=U.out;rwa[<-P.out,Yi]at this
 have F:=Tn (show gG l=if k<=32 then 0 else 2 by unfold gG;rw[T,P.out];rfl);by_cases M:k<=32
 .have t:decide ((32:Int)<k)=false:=by simp;omega
  go_wp2;go_ret;exact⟨eu (by rw[F.out,if_pos M]),y⟩
 have t:decide ((32:Int)<k)=true:=by simp;omega
 go_wp2;go_ret;exact⟨eu (by rw[F.out,if_neg M]),y⟩
end
end Go.Proofs.YtjmgalpkbkcmkaaGreatDoor

import Derived.Test.YtjmgalpkbkcmkaaGreatDoorQ08
set_option maxRecDepth 100000
set_option maxHeartbeats 16000000
set_option linter.all false
namespace Go.Proofs.YtjmgalpkbkcmkaaGreatDoor
open Go.RowKit Go.Proofs.Tryz Go.Proofs.YtjmgalpkbkcmkaaGreatDoor.Tryz
open And renaming intro->Xy
open _root_.Array renaming getElem?_eq_some_iff->UE,replicate_zero->WY,replicate_succ->WX,getElem?_eq_getElem->Vy
open Classical renaming not_not->Xn
open Exists renaming elim->UX
open Go renaming World->UN,Calls->VB,callsIn_wide->Vn,info_parts->WN,maxLen->VL,Value->UV,Boxed->VX,callsIn_of_wp_marks->YV,Addr->VW,undef->VM,grownCap->Yt,TypeId->WR,grownCap_le_maxLen->Yh,bytesRow->ZJ,bodyPost_ret->VC,heap_setCell_same->VE,wpIn_wide->WV
open Go.Act renaming put->Ua
open Go.Boxed renaming new->Wt,set->ZF
open Go.Builtin renaming append_->YU,zeroCells->WP
open Go.Ending renaming returned->UO
open Go.Fence renaming wide->Wx
open Go.IntKind renaming u8->Uy,i64->Tl
open Go.IntWalk renaming i64_in->Yo
open Go.Lib renaming hid->Tn,byteCells->VH
open Go.Obj renaming cells->Tq
open Go.Oper renaming semAt_some->ZA
open Go.Proofs renaming intOf->VS
open Go.Proofs.Tryz renaming prog->UB
open Go.Proofs.YtjmgalpkbkcmkaaGreatDoor.Fr renaming putObj->ZM,setCell->Uz,refl->Z5,of_ext->Uh
open Go.Proofs.YtjmgalpkbkcmkaaGreatDoor.aJ renaming own->Yz
open Go.Value renaming slice->Tm,tuple->UW,bool->U1,pointer->UK,agg->UT,int->Ti
open Go.World renaming size_alloc->Ud,cell?->Wc,alloc_heap_new->UZ,ownsRow_nil->WO,putObj_heap_other->Vk
open List renaming append_toArray->Wi,length_nil->VJ,drop_drop->YZ,flatMap_cons->Vh,getElem?_set_self->Vq,map_append->WK,length_take->VZ,length_drop->VT,length_append->Uo,mem_singleton->VP,push_toArray->XF,flatMap_nil->Yv,mem_of_getElem?->Uv,take_add_one->Xk,getElem?_append_right->WH,nil_append->Vd,length_cons->Up,size_toArray->WG,getElem?_take->XM,getElem?_set_ne->Vl,take_zero->Wk,getElem?_eq_some_iff->UU,getElem?_eq_getElem->V8,take_succ_cons->Xx,length_map->VR,cons_append->Vu,getD_eq_getElem?_getD->Uj,take_append_drop->Xv,take_of_length_le->VD,mem_cons->VN,getD_cons_zero->Xp,getElem?_map->VU,append_nil->Ww,getElem?_drop->YE,length->Xt,eq_nil_of_length_eq_zero->VA,map_cons->WI
open Nat renaming lt_trans->WF,mul_one->XT,zero_add->VY,le_refl->UY,reduceAdd->VO,reduceSub->YI,zero_le->VF,min_eq_left->Ys
open Option renaming some->Ts,none->U8,map->Xb
open UInt8 renaming ofNat->VI
variable {D E g i j k m n n1 n2 q:Nat} {I W b c d w:World} {L S:Nat->Prop} {P:Program} {Q:Exit->Act->World->Prop} {S2:World->Prop} {T t:TypeId} {a a1 ba:Option Addr} {at_ log me:Int} {u v x:Value} {vs:List Value}
structure Lf where
 body:au
 at_:Int
deriving DecidableEq
structure Lg where
 id:Int
 key:Nat
 delay:Int
 ls:List Lf
 wait:List Lf
 hide:List Int
structure Ky where
 log:Int
 key:Nat
 delay:Int
deriving DecidableEq
def dz(b:au):Bool:=decide (0<b.length)&&decide (b.length<=2048)
def J6(l:Lg):List Lf:=l.ls++l.wait
def IF:List au->List Lf->Bool
 |_,[]=>true
 |met,x::l=>dz x.body&&(dZ x.at_&&(!met.contains x.body&&IF (met++[x.body]) l))
def aeI(n:Int):Int->List Int->Bool
 |_,[]=>true
 |last,k::l=>decide (last<k)&&(decide (k<n)&&aeI n k l)
def lj(l:Lg):Int:=
 if !dZ l.id||(l.key==0||(decide (Rp<=l.key)||(decide (l.delay<0)||decide (1000<l.delay))))then 1 else
 if IF [] (J6 l)=false then 1 else
 if aeI l.ls.length (-1) l.hide=false then 1 else
 if 256<(J6 l).length then 2 else 0
def Ht(id:Int)(b:au)(delay:Int):Lg:=⟨id,jE iU [b],delay,[],[],[]⟩
def BC(l:Lg):Ky:=⟨l.id,base l.key,l.delay⟩
def fq(n:Int):au:=be 8 (n%2^64).toNat
def Ct:au:=[112,114,111,109,105,115,101]
def dU(log at_:Int)(leaf:nD):au:=Ct++(fq log++(fq at_++eq leaf))
def AG(l:Lg)(body:au):Option Lf:=(J6 l).find? fun x=>x.body==body
def JU(l:Lg)(body:au)(b:Int):Int:=
 if lj l≠0 then lj l else if !dz body|| !dZ b then 1 else
 match AG l body with
 |some _=>0
 |none=>if(J6 l).length=256 then 2 else 0
def aeW(l:Lg)(body:au)(b:Int):Int:=match AG l body with
 |some x=>x.at_
 |none=>b
def ag1(l:Lg)(body:au)(b:Int):gW:=⟨l.id,aeW l body b,uS body,lW l.key (dU l.id (aeW l body b) (uS body))⟩
def jS(k:Ky)(log:Int)(ok:Bool)(msg:au)(s:Sg):Int:=if !dZ log|| !ok then 1 else if log≠k.log then 240 else lI k.key msg s
def p7(k:Ky)(p:gW):Int:=jS k p.log (dZ p.at_) (dU p.log p.at_ p.leaf) p.sig
def lD(b:List Ky)(leaf:nD)(p:gW):Bool:=match b.find? fun k=>k.log==p.log with
 |none=>true
 |some k=> !(p.leaf==leaf)||p7 k p !=0
def ow(d:ff->Bool×Int)(b:List Ky)(body:au):Int:=match cz body with
 | .error e=>e
 | .ok c=>
  if(c.proms.filter fun p=> !lD b (zg c) p).length<2 then 251 else
  if c.ca then 161 else
  if(d c).2=0/\(d c).1=false then 161 else(d c).2
def jT(s:dp)(d:Dn):Int:=if s.done.contains d then 0 else if s.done.any (cI d)then 250 else fM s.store (dH d)
def jw(s:dp)(d:Dn):dp:=if s.done.contains d then s else{s with store:=pT (fT s.store (dH d)),done:=s.done++[d]}
def bA(s:dp)(b me:Int)(d:Dn):Int:=
 if bJ s≠0 then bJ s else if s.up=false then 221 else if b<0\/1099511627776<b then 1 else
 if s.bad=false/\me≠0 then me else if s.bad=false/\jT s d≠0 then jT s d else bY s.share b
def bN(s:dp)(d:Dn):dp:=if s.bad then s else jw s d
def gB(s:dp)(keep:Int):dp:={s with up:=false,done:=[],store:=iM s.store (min keep s.store.opn.length)}
def FJ(s:dp):Int:=if bJ s≠0 then bJ s else if s.up then 221 else if cY (bk (iR s.store))=U8 then 200 else 0
def ju(s:dp):dp:={s with up:=true,done:=(cY (bk (iR s.store))).getD [],store:=iR s.store}
structure aeB(s:dp):Prop where
 wal:s.store.safe.length+s.store.opn.length<=65536
 share:kr s.share=true
 whole:iG (bk s.store)=true
 told:cY (bk s.store)=Ts s.done
def sA{s}:gH s=0↔s.safe.length+s.opn.length<=65536:=by unfold gH;split<;>simp<;>omega
def mr{s:dp}(X:s.up=true):bJ s=0↔aeB s:=by
 unfold bJ;constructor
 .intro h;split at h
  .next h1=>exact absurd h h1
  next h1=>
  split at h
  .cases h
  next c=>
  split at h
  .cases h
  next A=>
  rw[X]at c A;simp at c A;exact⟨sA.1 (Xn.1 h1),c,A.1,A.2⟩
 intro h;rw[if_neg (by rw[sA.2 h.wal];simp),X,h.share,h.whole,h.told];simp
def oD{s:dp}(X:s.up=false):bJ s=0↔s.store.safe.length+s.store.opn.length<=65536/\kr s.share=true/\s.done=[]:=by
 unfold bJ;rw[X];constructor
 .intro h;split at h
  .next h1=>exact absurd h h1
  next h1=>
  split at h
  .cases h
  next c=>simp at c;exact⟨sA.1 (Xn.1 h1),c.1,c.2⟩
 rintro⟨h1,c,A⟩;rw[if_neg (by rw[sA.2 h1];simp),c,A];simp
def wn(s)(b:au):bk (pT (fT s b))=bk s++cF b:=by unfold pT fT bk;simp
def dg(s):(bk s).length=s.safe.length+s.opn.length:=by unfold bk;rw[Uo]
def agM{s d}(h:aeB s)(y:KD d)(b:jT s d=0):aeB (jw s d)/\d∈(jw s d).done/\(jw s d).share=s.share/\(jw s d).bad=s.bad/\(jw s d).up=s.up/\((jw s d).done=s.done\/(jw s d).done=s.done++[d]):=by
 unfold jT at b;unfold jw;by_cases J:s.done.contains d=true
 .rw[if_pos J];exact⟨h,by simpa using J,rfl,rfl,rfl,.inl rfl⟩
 rw[if_neg J]at b⊢;split at b
 .cases b
 next hn=>
 unfold fM at b;split at b
 .cases b
 split at b
 .cases b
 split at b
 .cases b
 rw[sA]at b;have z:=Kx h.whole h.told y (by simpa using hn);refine⟨⟨?_,h.share,?_,?_⟩,Pm,rfl,rfl,rfl,.inr rfl⟩
 .show(bk (fT s.store (dH d))).length+0<=_
  rw[dg];exact b
 .show iG (bk (pT _))=true
  rw[wn];exact z.2
 show cY (bk (pT _))=_
 rw[wn];exact z.1
def GO{s}(h:aeB s)(keep):bJ (gB s keep)=0:=by
 rw[oD rfl];refine⟨?_,h.share,rfl⟩;show(s.store.safe++s.store.opn.take _).length+0<=_
 rw[Uo,VZ];have:=h.wal;omega
def D5(s k):bk (iM s k)=(bk s).take (s.safe.length+k.toNat):=by
 unfold bk iM;dsimp only;rw[Ww,List.take_append,VD (l:=s.safe) (i:=s.safe.length+k.toNat) Ph,Nat.add_sub_cancel_left]
def adU{s}(h:bJ s=0)(X:s.up=false){l:List Dn}(b:cY (bk s.store)=Ts l):FJ s=0/\aeB (ju s)/\(ju s).done=l:=by
 obtain⟨h1,c,A⟩:=(oD X).1 h;have e:=(MC s.store).trans b;refine⟨?_,⟨?_,c,J8 _,?_⟩,?_⟩
 .unfold FJ;rw[if_neg (by rw[h];simp),X,if_neg Pm,e,if_neg Pm]
 .rw[<-dg];show(bk (iR s.store)).length<=_
  rw[uH,VZ,dg];omega
 .show cY (bk (iR s.store))=Ts ((cY (bk (iR s.store))).getD [])
  rw[e];rfl
 show(cY (bk (iR s.store))).getD []=l
 rw[e];rfl
def Jo{s}(h:aeB s)(keep)(o:(s.store.opn.length:Int)<=keep):cY (bk (gB s keep).store)=Ts s.done:=by
 show cY (bk (iM s.store _))=_
 rw[D5,VD (by rw[dg];omega)];exact h.told
def Jy{s:dp}{b d}(y:s.bad=false->KD d)(f:bA s b me d=0):aeB s/\s.up=true/\aeB (bN s d)/\(bN s d).share=s.share/\(bN s d).bad=s.bad/\(bN s d).up=true/\
  ((bN s d).done=s.done\/(bN s d).done=s.done++[d])/\(s.bad=false->me=0/\jT s d=0/\d∈(bN s d).done)/\0<=b/\b<=1099511627776/\bY s.share b=0:=by
 unfold bA at f;split at f
 .next h=>exact absurd f h
 next h1=>
 split at f
 .cases f
 next c=>
 split at f
 .cases f
 next A=>
 have X:s.up=true:=Zdd;have j:=(mr X).1 (Xn.1 h1);split at f
 .next m=>exact absurd f m.2
 next m=>
 split at f
 .next l=>exact absurd f l.2
 next l=>
 unfold bN;cases hb:s.bad with
 |true=>
  rw[if_pos rfl];exact⟨j,X,j,rfl,hb,X,.inl rfl,fun e=>RH,Ph,Ph,f⟩
 |false=>
  rw[if_neg Pm];have K:jT s d=0:=Xn.1 fun e=>l ⟨hb,e⟩;have g:=agM j (y hb) K;exact⟨j,X,g.1,g.2.2.1,g.2.2.2.1.trans hb,g.2.2.2.2.1.trans X,g.2.2.2.2.2,fun _=>⟨Xn.1 fun e=>m ⟨hb,e⟩,K,g.2.1⟩,Ph,Ph,f⟩
def EI(n:Nat)(w:UN)(hn:n<=1000000000):VB UB 220 #[zz,Ti Tl n] w (fun e b=>∃v,e=UO v/\b.ownsRow w.heap.size 5 1 v 0 []/\aq w b):=by
 obtain⟨i0,hi,m,l,j⟩:=WN lz;by_cases L:n=0
 .subst L;go_enter func220,ntmps220;exact U5
 have h1:¬((n:Int)<0):=by omega
 have c:(n:Int)>0:=Ph;have g:∀q,(YU #[37,3] q #[zz,Ti Tl (n:Int)]).run UB w=
   .ok (Tm (Ts ⟨w.heap.size,0,U8⟩) (0+n) (Yt w (0+n) 0 5)) (w.drew.alloc (Tq (([]:List UV).toArray++WP (Ti Uy 0:UV).cells n++WP (Ti Uy 0:UV).cells (Yt w (0+n) 0 5-(0+n))) 5)):=fun q=>
  Lib.run_append_grow_zeros w 37 3 q 5 i0 (Ti Uy 0) Tl Tl underlying37 underlying3 hi m U8 0 0 [] (run_firstCells_none w.drew i0.size 0 0 0) n Ph (by rw[l];decide) Ph Ph Zbd
   (growslice_fits Ph Zbd)
 have s:n<=Yt w (0+n) 0 5:=by have:=grownCap_ge w (0+n) 0 5;omega
 have r:=Yh w (0+n) 0 5 Pr;refine P1 (Yt w (0+n) 0 5) fun G o=>?_;rw[o]at g s r;obtain⟨f,d⟩:∃f:Array UV,([]:List UV).toArray++WP (Ti Uy 0:UV).cells n++WP (Ti Uy 0:UV).cells (G-(0+n))=f:=⟨_,rfl⟩;have p:Hid (f.size=G*1):=Tn SG;rw[d]at g;have t:=Tn r;rw[VY]at g;go_enter func220,ntmps220;go_wp2_with (at_builtin;refine Lib.wpList_append_run _ rfl _ _ _ _ rfl _ _ rfl rfl _ _ (g _) ?_)
 all_goals(go_ret;exact⟨_,rfl,World.ownsRow_made w.drew f G (UY _) t p,af (ap w) _⟩)
def yQ{p}(h:w.cell? p=Ts v)(g:aq w b):b.cell? p=Ts v:=by
 unfold Wc at h⊢;cases hb:w.heap[p.block]? with
 |none=>rw[hb]at h;cases h
 |some o=>rw[g.block _ (UE.1 hb).1];exact h
structure Mc(w:UN)(p:UV×Nat×List UV):Prop where
 ex:∃a c,p.1=Tm a p.2.1 c/\(a=U8->p.2.1=0)/\∀ad,a=Ts ad->∀(j:Nat)(u:UV),p.2.2[j]?=Ts u->w.cell? (ad.add j)=Ts u
 len:p.2.2.length=p.2.1*1
 one:∀u∈p.2.2,u.oneCell'=true
def ku(l:List (UV×Nat×List UV)):Nat:=(l.map (·.2.1)).sum
def tk(l:List (UV×Nat×List UV)):List UV:=l.flatMap (·.2.2)
def uZ{l:List (UV×Nat×List UV)}{p:UV×Nat×List UV}(h:l[k]?=Ts p):ku (l.take (k+1))=ku (l.take k)+p.2.1:=by unfold ku;rw[aW h];simp
def Ep{l:List (UV×Nat×List UV)}{p:UV×Nat×List UV}(h:l[k]?=Ts p):tk (l.take (k+1))=tk (l.take k)++p.2.2:=by unfold tk;rw[aW h];simp
def DE(l:List (UV×Nat×List UV))(k):ku (l.take k)<=ku l:=by
 conv=>rhs;rw[<-Xv k l]
 unfold ku;exact Zcl
def Bp(ps:List (UV×Nat×List UV))(b c:Nat)(w)(Z:∀p∈ps,Mc w p)(hb:∀(j:Nat)(p:UV×Nat×List UV),ps[j]?=Ts p->w.cell? ⟨b,j,U8⟩=Ts p.1)(hl:ps.length<=1000000)(z:ku ps<=100000000):
  VB UB 171 #[Tm (Ts ⟨b,0,U8⟩) ps.length c] w (fun e w'=>∃v,e=UO v/\w'.ownsRow w.heap.size 5 1 v (ku ps) (tk ps)/\aq w w'):=by
 obtain⟨i0,hi,E,C,D⟩:=WN lz;refine P9 hi E C D Z hb fun HI HZ0 HZ1 HZ2 Y HB=>P1 ps.length fun L hL=>have HL:=Tn hL;?_;rw[hL]at hl⊢;clear Z hb hL hi E C D;go_enter func171,ntmps171;go_wp2;go_loopw [11,3] (fun i n wr=>∃k:Nat,k<=L/\i=Ti Tl k/\n=Ti Tl (ku (ps.take k):Nat)/\wr=w) (fun i _ _=>L-(VS i).toNat)
 case atStart=>exact⟨0,VF _,rfl,rfl,rfl⟩
 obtain⟨k,o,rfl,rfl,hw⟩:=hrel;have hw2:=hw.symm;subst hw2;clear hw;by_cases R:k<L
 .obtain⟨p,x⟩:=ay HL R;obtain⟨a,pc,W,_,_⟩:=(Y p (Uv x)).ex;have J:=HB.out k p x;rw[W]at J;have d:=uZ x;have I:=DE ps (k+1);refine P1 p.2.1 fun m K=>?_;rw[K]at J d;refine P1 (ku (ps.take k)) fun S l=>?_;rw[l]at d;have N:=Tn d;have hsm:S+m<=100000000:=Ph;rw[l];clear x W K l d I;go_wp2;go_roundw
  case rel=>exact⟨k+1,Ph,Pt,ZY,Zbe⟩
  case measure=>simp[VS];omega
 obtain rfl:L=k:=by omega
 have ht:ps.take L=ps:=VD QT;rw[ht];refine P1 (ku ps) fun S l=>have HS:=Tn l;?_;rw[l]at z⊢;clear l ht;go_wp2_with fail;refine(EI S _ Ph).mono ?_;rintro e t⟨v1,rfl,r,q⟩;refine P4 r q fun HO1 s=>?_;clear r q;go_wp2;go_loopw [27,6] (fun i v wr=>∃k:Nat,k<=L/\i=Ti Tl k/\wr.ownsRow w.heap.size 5 1 v (ku (ps.take k)) (tk (ps.take k))/\aq w wr) (fun i _ _=>L-(VS i).toNat)
 case atStart=>exact⟨0,VF _,rfl,HO1,s⟩
 obtain⟨k,o,rfl,r,g⟩:=hrel;refine P4 r g fun P ys=>?_;clear r g;by_cases R:k<L
 .obtain⟨p,x⟩:=ay HL R;have G:=Y.out p (Uv x);obtain⟨a,pc,W,M,O⟩:=G.ex;have J:=ae (HB k p x) ys;rw[W]at J;have d:=uZ x;have B:=Ep x;have I:=DE ps (k+1);have f:=G.len;have y:=G.one;refine P1 p.2.1 fun m K=>P1 p.2.2 fun cs H=>?_;rw[K]at J d M f;rw[H]at B f y O;refine P1 (ku (ps.take k)) fun S2 T=>P1 (tk (ps.take k)) fun A2 U=>?_;rw[T]at d P;rw[U]at B P;refine PC d B M f y fun N HAL HN0 V Q=>have HCS:Hid (∀ad,a=Ts ad->∀(j:Nat)(u:UV),cs[j]?=Ts u->wr.cell? (ad.add j)=Ts u):=Tn (fun ad had j u X=>yQ (O ad had j u X) ys);?_;have hsm:S2+m<=100000000:=by have:=HS.out;omega
  have hsz:=ys.out.size;have hi:=HI.out;have E:=HZ0.out;have C:=HZ1.out;have D:=HZ2.out;clear x W K T U d B I G M O H f y
  go_wp2_with (
         at_builtin
         refine aX rfl _ _ 37 rfl w.heap.size 5 i0 (Ti Uy 0) 1 1 underlying37 hi E C D rfl Pi _ _ _ rfl P.out a m pc cs rfl V.out HCS HN0 Q Pr Ph Ph ?_
         intro v2 w2 r A
         refine P4 r (aq.grown ys A (fun k o=>(P.lt k o).1)) fun HO2 F=>?_
         clear r A J)
  go_roundw
  case rel=>exact⟨k+1,Ph,Pt,Zdt,F⟩
  case measure=>simp[VS];omega
 exact To
def tE(l:au):Lib.bytesOf (l.map fun c=>(c.toNat:Int))=l:=by
 unfold Lib.bytesOf;rw[List.map_map];conv=>rhs;rw[<-List.map_id l]
 apply List.map_congr_left;intro c _;simp
def C9{s:au}(h:aY w a s):Lib.BytesIn w a s.length (s.map fun c=>(c.toNat:Int)):=by
 intro hn;obtain⟨b,o,rfl,_⟩:=h 0 s[0] (V8 hn);refine⟨b,o,rfl,fun i hi=>?_⟩;obtain⟨g,o',d,f⟩:=h i s[i] (V8 hi);cases d;rw[f];simp[Uj,hi]
def wq(s t:au)(u v w)(X:aJ w u s)(f:aJ w v t):VB UB 87 #[u,v] w (bM (U1 (s==t)) w):=by
 obtain⟨a,c,rfl,h1,m,A⟩:=X;obtain⟨b,d,rfl,l,j,g⟩:=f;refine(bytes_Equal_all a b s.length c t.length d (s.map fun c=>(c.toNat:Int)) (t.map fun c=>(c.toNat:Int)) w Pm Pm (C9 A) (C9 g)).mono ?_;rintro e o⟨rfl,rfl⟩;rw[tE,tE];exact⟨rfl,P0⟩
def qu(s:au)(v w)(d:aJ w v s)(p:s.length<=1000000000):VB UB 89 #[v] w (BK w s):=by
 obtain⟨a,c,rfl,h1,l,A⟩:=d;cases a with
 |none=>
  have L:=eh A;obtain rfl:s=[]:=VA L;refine(bytes_Clone_nil _ c w).mono ?_;rintro e j⟨rfl,rfl⟩;exact⟨_,rfl,WO _ _ _ _,P0⟩
 |some f=>
  refine(bytes_Clone_at f s.length c (s.map fun c=>(c.toNat:Int)) w Pm Ph (fun i hi=>?_)).mono ?_
  .obtain⟨b,off,hb,J⟩:=A i s[i] (V8 hi);cases hb;rw[show((⟨b,off,U8⟩:VW).add i)=⟨b,off+i,U8⟩from by simp[Addr.add],J];simp[Uj,hi]
  rintro e j⟨v,rfl,r,_,g⟩;refine⟨v,rfl,?_,g⟩;have:(s.map fun c=>(c.toNat:Int)).map (Ti Uy)=VH s:=by unfold VH;rw[List.map_map];rfl
  rw[this]at r;exact r
def NQ{s:au}(h:aJ w v s):Mc w (v,s.length,VH s):=by
 obtain⟨a,c,rfl,h1,b,A⟩:=h;exact⟨⟨a,c,rfl,fun e=>by subst e;exact eh A,A.news⟩,by rw[bC,XT],dM s⟩
def lN(s t:au):VH (s++t)=VH s++VH t:=by unfold VH;rw[WK]
def uw(ps:List (UV×au))(b c:Nat)(w)(f:∀p∈ps,aJ w p.1 p.2)(hb:∀(j:Nat)(p:UV×au),ps[j]?=Ts p->w.cell? ⟨b,j,U8⟩=Ts p.1)(g:ps.length<=1000000)(z:(ps.flatMap (·.2)).length<=100000000):
  VB UB 171 #[Tm (Ts ⟨b,0,U8⟩) ps.length c] w (BK w (ps.flatMap (·.2))):=by
 have h1:∀l:List (UV×au),ku (l.map fun p=>(p.1,p.2.length,VH p.2))=(l.flatMap (·.2)).length:=fun l=>by
  induction l with
  |nil=>rfl
  |cons p l d=>unfold ku at d⊢;rw[WI,WI,List.sum_cons,d,Vh,Uo]
 have m:∀l:List (UV×au),tk (l.map fun p=>(p.1,p.2.length,VH p.2))=VH (l.flatMap (·.2)):=fun l=>by
  induction l with
  |nil=>rfl
  |cons p l d=>unfold tk at d⊢;rw[WI,Vh,d,Vh,lN]
 have h:=Bp (ps.map fun p=>(p.1,p.2.length,VH p.2)) b c w (fun q N=>by
  obtain⟨p,x,rfl⟩:=List.mem_map.1 N;exact NQ (f p x)) (fun j q N=>by
  rw[VU]at N;cases x:ps[j]? with
  |none=>rw[x]at N;cases N
  |some p=>rw[x]at N;cases N;exact hb j p x) (by rw[VR];exact g) (by rw[h1];exact z)
 rw[h1,m,VR]at h;exact h
structure gn(w:UN)(u v:UV)(s:lP):Prop where
 safe:aJ w u s.safe
 opn:aJ w v s.opn
def gn.ext{s}(h:gn w u v s)(g:aq w b):gn b u v s:=⟨h.safe.ext g,h.opn.ext g⟩
def xp(s u v w)(h:gn w u v s)(B:s.safe.length+s.opn.length<=100000000):VB UB 115 #[UT #[u,v]] w (BK w (bk s)):=by
 obtain⟨⟨a,c,rfl,h1,G,A⟩,⟨b,d,rfl,q,H,o⟩⟩:=h;have y:Hid (aJ w (Tm a s.safe.length c) s.safe):=Tn ⟨_,_,rfl,h1,G,A⟩;have z:Hid (aJ w (Tm b s.opn.length d) s.opn):=Tn ⟨_,_,rfl,q,H,o⟩;refine P1 w.heap.size fun D C=>P1 s.safe.length fun N l=>P1 s.opn.length fun M m=>P4 l m fun E K=>?_;rw[l]at y B⊢;rw[m]at z B⊢;go_enter func115,ntmps115;go_wp2_with fail;refine P1 ((w.alloc (Tq #[Tm a N c,Tm b M d] 42)).alloc (Tq #[Tm a N c,Tm b M d] 37)) fun t T=>have f:Hid (aq w t):=Tn RS;?_;have J:∀(j:Nat)(p:UV×au),[(Tm a N c,s.safe),(Tm b M d,s.opn)][j]?=Ts p->t.cell? ⟨D+1,j,U8⟩=Ts p.1:=fun j p Q=>by
  rw[<-T,<-C]
  have h:=cQ (w.alloc (Tq #[Tm a N c,Tm b M d] 42)) [Tm a N c,Tm b M d] 37 j p.1 (by
   have:=congrArg (Xb Prod.fst) Q;rw[<-VU]at this
   exact this)
  rw[Ud,show((⟨w.heap.size+1,0,U8⟩:VW).add j)=⟨w.heap.size+1,j,U8⟩from Px]at h;exact h
 rw[T];refine(uw [(Tm a N c,s.safe),(Tm b M d,s.opn)] (D+1) 2 t (fun p x=>?_) J Pm (by simp[E.out,K.out];omega)).mono ?_
 .rcases VN.1 x with rfl|x
  .exact y.out.ext f
  rw[VP]at x;subst x;exact z.out.ext f
 rintro e I⟨v,rfl,r,g⟩;refine P4 r g fun L F=>?_;go_wp2;go_ret;refine⟨_,rfl,?_,aa f F⟩;have:=L.out;simp only[Vh,Yv,Ww]at this;exact this.mono f.size
def fF(s:au)(v w)(h:aJ w v s)(p:s.length<=1000000000):VB UB 10 #[v] w (bM (UT #[ag (bF s).1,ag (bF s).2]) w):=by
 obtain⟨a,c,rfl,h1,b,A⟩:=h;exact Hx s a s.length c w rfl h1 Ph A
def qt(s:au)(w):VB UB 110 #[UT #[ag (bF s).1,ag (bF s).2]] w (BK w (eq (bF s))):=by
 obtain⟨h1,c⟩:=lk s;have x:iE<2^64:=Pi;refine(jY (bF s) w (WF h1 x) (WF c x)).mono ?_;rintro e b⟨v,rfl,r,g⟩;exact⟨v,rfl,by rw[aT];exact r,g⟩
def Fd(s:au)(v w)(h:aJ w v s)(W:s.length<=4096):VB UB 172 #[v] w (BK w (cF s)):=by
 obtain⟨a,c,rfl,h1,S,A⟩:=h;have L:Hid (aJ w (Tm a s.length c) s):=Tn ⟨_,_,rfl,h1,S,A⟩;refine P1 s.length fun N P=>have K:=Tn P;?_;rw[P]at L W⊢;go_enter func172,ntmps172;go_wp2_with fail;refine P1 w.heap.size fun D C=>P1 (w.alloc (Tq #[Ti Uy ((N:Int)/16777216),Ti Uy ((N:Int)/65536),Ti Uy ((N:Int)/256),Ti Uy ((N:Int)%256)] 5)) fun t T=>have y:Hid (aq w t):=Tn QA;?_;have B:#[Ti Uy ((N:Int)/16777216),Ti Uy ((N:Int)/65536),Ti Uy ((N:Int)/256),Ti Uy ((N:Int)%256)]=(VH (be 4 N)).toArray:=by
  unfold VH;simp[be];omega
 have z:Hid (aJ t (Tm (Ts ⟨D,0,U8⟩) 4 4) (be 4 N)):=Tn ⟨_,_,by rw[aI],RQ,Pr,fun i x m=>⟨D,0,rfl,by
  rw[<-T,B,<-C,VY]
  unfold Wc
  rw[UZ]
  unfold VH
  simp[m]⟩⟩
 rw[T];try rw[C]
 refine(fF s _ t (L.ext y) (by rw[K.out];omega)).mono ?_;rintro e I⟨rfl,f⟩;refine P4 (aa y f) (z.ext f) fun F E=>?_;go_wp2_with fail;refine(qt s I).mono ?_;rintro e O⟨v3,rfl,r,V⟩;refine P3 (aa F V) (E.ext V) (Yz rfl r) fun Id R q=>?_;obtain⟨a3,c3,G,_⟩:=q.out;rw[aT]at G;subst G;refine P1 O.heap.size fun H u=>P1 (O.alloc (Tq #[Tm (Ts ⟨D,0,U8⟩) 4 4,Tm a N c,Tm a3 16 c3] 37)) fun o d=>have b:Hid (aq O o):=Tn Pq;?_;have J:∀(j:Nat)(p:UV×au),[(Tm (Ts ⟨D,0,U8⟩) 4 4,be 4 N),(Tm a N c,s),(Tm a3 16 c3,eq (bF s))][j]?=Ts p->o.cell? ⟨H,j,U8⟩=Ts p.1:=fun j p Q=>by
  rw[<-d,<-u]
  have h:=cQ O [Tm (Ts ⟨D,0,U8⟩) 4 4,Tm a N c,Tm a3 16 c3] 37 j p.1 (by
   have:=congrArg (Xb Prod.fst) Q;rw[<-VU]at this
   exact this)
  rw[show((⟨O.heap.size,0,U8⟩:VW).add j)=⟨O.heap.size,j,U8⟩from Px]at h;exact h
 have U:=Tn J;go_wp2_with fail;try rw[d]
 try rw[u]
 refine(uw [(Tm (Ts ⟨D,0,U8⟩) 4 4,be 4 N),(Tm a N c,s),(Tm a3 16 c3,eq (bF s))] H 3 o (fun p l=>?_) U Pm (by simp[K.out,aI,aT];omega)).mono ?_
 .rcases VN.1 l with rfl|l
  .exact R.out.ext b
  rcases VN.1 l with rfl|l
  .exact(L.ext Id).ext b.out
  rw[VP]at l;subst l;exact q.out.ext b
 rintro e Y⟨v,rfl,r,g⟩;refine P4 r (aa b g) fun X M=>?_;go_wp2;go_ret;refine⟨_,rfl,?_,aa Id M⟩;have:=X.out;simp only[Vh,Yv,Ww]at this;rw[cF,K.out];exact this.mono (Nat.le_trans Id.size b.size)
def jZ(s u v w)(h:gn w u v s):VB UB 50 #[UT #[u,v]] w (bM (Ti Tl (gH s)) w):=by
 obtain⟨⟨a,c,rfl,h1,x,A⟩,⟨b,d,rfl,r,q,p⟩⟩:=h;have j:=Tn (show aq w (w.alloc (Tq #[Tm a s.safe.length c,Tm b s.opn.length d] 42))from af P0 _);have l:Hid (gH s=if 65536<s.safe.length+s.opn.length then 2 else 0):=Tn rfl;refine P1 s.safe.length fun N m=>P1 s.opn.length fun M o=>have K:VL=9223372036854775807:=rfl;have y:N<=9223372036854775807:=Ph;have t:M<=9223372036854775807:=Ph;?_;rw[m,o]at j l⊢;refine P1 (gH s) fun E g=>?_;rw[g]at l⊢;by_cases f:65536<N+M
 .have D:E=2:=by have:=l.out;rwa[if_pos f]at this
  exact Zb3
 have D:E=0:=by have:=l.out;rwa[if_neg f]at this
 exact Zb3
def mP(k:Int)(s:lP)(w:UN)(e:Ending)(b:UN):Prop:=∃u v,e=UO (UW #[UT #[u,v],Ti Tl k])/\aq w b/\(k≠0->u=zz/\v=zz)/\(k=0->gn b u v s)
def mP.no{k s}(o:k≠0)(g:aq w b):mP k s w (UO (UW #[UT #[zz,zz],Ti Tl k])) b:=⟨_,_,rfl,g,fun _=>⟨rfl,rfl⟩,fun h=>absurd h o⟩
def mP.yes{s}(h:gn b u v s)(g:aq w b):mP 0 s w (UO (UW #[UT #[u,v],Ti Tl 0])) b:=⟨_,_,rfl,g,fun h=>absurd rfl h,fun _=>h⟩
def Bk(w):aJ w (zz) []:=⟨U8,0,rfl,UY _,VF _,fun i x m=>Zb1⟩
def gn.form{s}(h:gn w u v s):∃a c b d,u=Tm a s.safe.length c/\v=Tm b s.opn.length d:=by
 obtain⟨⟨a,c,rfl,_⟩,⟨b,d,rfl,_⟩⟩:=h;exact⟨_,_,_,_,rfl,rfl⟩
def yP(s u v w)(h:gn w u v s):VB UB 101 #[UT #[u,v]] w (mP (gH s) (pT s) w):=by
 obtain⟨a,c,b,d,rfl,rfl⟩:=h.form;have Q:=Tn h;refine P1 s.safe.length fun N T=>P1 s.opn.length fun M U=>P4 T U fun X Y=>?_;rw[T,U]at Q⊢;refine P1 w.heap.size fun D C=>P1 ((w.alloc (Tq #[Tm a N c,Tm b M d] 42)).alloc (Tq #[zz,zz] 42)) fun f o=>have B:=Tn (show aq w f by rw[<-o];exact af (af P0 _) _);have O:Hid (f.heap[D]?=Ts (Tq #[Tm a N c,Tm b M d] 42 (0,0))):=Tn (by rw[<-o,<-C];exact(Below.heap_alloc _ _ _ Pm).trans (UZ _ _));have Z:Hid (f.heap[D+1]?=Ts (Tq #[zz,zz] 42 (0,0))):=Tn (by rw[<-o,<-C];have:=UZ (w.alloc (Tq #[Tm a N c,Tm b M d] 42)) (Tq #[zz,zz] 42);rwa[Ud]at this);have J:w.heap.size<=D+1:=Ph;PM O fun c0 c1=>?_;clear T U h;go_enter func101,ntmps101;go_upto_region 1 with(fail);try rw[o]
 try rw[C]
 clear o C;go_wp2_with fail;refine(jZ s _ _ f (Q.ext B)).mono ?_;rintro e t⟨rfl,q⟩;refine P3 (aa B q) ((q.block D (UE.1 O).1).trans O) ((q.block (D+1) (UE.1 Z).1).trans Z) fun p A l=>have W:=Tn (Q.ext p);?_;clear c0 c1 q;refine PM A fun c0 c1=>P1 (gH s) fun E L=>have z:=Tn L;?_;rw[L];have R:E=2/\65536<N+M\/E=0/\N+M<=65536:=by
  rw[<-L,<-X.out,<-Y.out];unfold gH;split<;>omega
 clear L;rcases R with⟨rfl,_⟩|⟨rfl,hsm⟩
 .refine PM l fun e0 am=>PO l fun g0 g1=>have j:=Tn (bz l J p (zz) (zz));?_;go_wp2_with fail;exact PM j.1 fun q0 q1=>VC (v:=UW #[UT #[zz,zz],Ti Tl 2]) Sp rfl (by rw[z.out];exact mP.no Pi j.2)
 go_wp2_with fail;refine(xp s _ _ t W (by rw[X.out,Y.out];omega)).mono ?_;rintro e I⟨vb,rfl,r,y⟩;obtain⟨a2,G,P,_⟩:=Yz rfl r;subst P;refine P3 r (aa p y) ((y.block (D+1) (UE.1 l).1).trans l) fun x F m=>?_;clear r y;refine PM m fun e0 am=>PO m fun g0 g1=>P1 ((bk s).length) fun K H=>have HK:=Tn H;?_;rw[H]at x⊢;clear H;have hsz:D+1<t.heap.size:=(UE.1 l).1;have j:=Tn (bz m J F (Tm a2 K G) (zz));have HF:Hid (Fr (fun i=>i=D+1) I ((I.setCell ⟨D+1,0,U8⟩ (Tm a2 K G)).setCell ⟨D+1,1,U8⟩ (zz))):=Tn ((Uz (S:=fun i=>i=D+1) _ ⟨D+1,0,U8⟩ _ rfl).trans (Uz (S:=fun i=>i=D+1) _ ⟨D+1,1,U8⟩ _ rfl));go_wp2_with fail;exact PM j.1 fun q0 q1=>have V:Hid (aJ ((I.setCell ⟨D+1,0,U8⟩ (Tm a2 K G)).setCell ⟨D+1,1,U8⟩ (zz)) (Tm a2 K G) (bk s)):=Tn (Yz HK (eM x HF (fun g hg e=>by have:=bE x g hg;omega)));VC (v:=UW #[UT #[Tm a2 K G,zz],Ti Tl 0]) Sp rfl (by rw[z.out];exact mP.yes (s:=pT s) (show gn _ _ _ ⟨bk s,[]⟩from⟨V,Bk _⟩) j.2)
def aJ.take{c}{s:au}(hn:s.length=n)(h:aJ w (Tm a n c) s)(o:k<=n):aJ w (Tm a k c) (s.take k):=by
 obtain⟨g,f,b,h1,d,A⟩:=h;cases b
 exact⟨a,c,by rw[VZ,hn,Ys o],QD,d,fun i x m=>A i x (by
  rw[XM]at m;split at m
  .exact m
  cases m)⟩
def aJ.off{B:Nat}{s:au}(h:aJ w v s)(P:Fr (fun i=>i=B) w d)(f:∀(j:Nat)(c:Int),w.cell? ⟨B,j,U8⟩≠Ts (Ti Uy c)):aJ d v s:=by
 obtain⟨a,c,rfl,h1,l,A⟩:=h;refine⟨a,c,rfl,h1,l,fun i x m=>?_⟩;obtain⟨b,o,rfl,J⟩:=A i x m;exact⟨b,o,rfl,(P.cell (p:=⟨b,o+i,U8⟩) (aR J) (fun e=>f (o+i) _ (by have g:b=B:=e;rw[<-g];exact J))).trans J⟩
def oV{B c1 c2:Nat}{a2 b}(u:w.heap[B]?=Ts (Tq #[Tm a1 n1 c1,Tm a2 n2 c2] T b)):∀(j:Nat)(c:Int),w.cell? ⟨B,j,U8⟩≠Ts (Ti Uy c):=by
 intro j c;unfold Wc;rw[u];rcases j with _|_|j<;>simp
def gn.off{B:Nat}{s}(h:gn w u v s)(P:Fr (fun i=>i=B) w b)(d:∀(j:Nat)(c:Int),w.cell? ⟨B,j,U8⟩≠Ts (Ti Uy c)):gn b u v s:=⟨h.safe.off P d,h.opn.off P d⟩
def EH(s keep u v w)(h:gn w u v s):VB UB 46 #[UT #[u,v],Ti Tl keep] w (mP (fg s keep) (iM s keep) w):=by
 obtain⟨a,c,b,d,rfl,rfl⟩:=h.form;have R:=Tn h;refine P1 s.safe.length fun N hN=>P1 s.opn.length fun M hM=>P4 hN hM fun HN L=>?_;rw[hN,hM]at R⊢;refine P1 w.heap.size fun D C=>P1 ((w.alloc (Tq #[Tm a N c,Tm b M d] 42)).alloc (Tq #[zz,zz] 42)) fun f r=>have B:=Tn (show aq w f by rw[<-r];exact af (af P0 _) _);have T:Hid (f.heap[D]?=Ts (Tq #[Tm a N c,Tm b M d] 42 (0,0))):=Tn (by rw[<-r,<-C];exact(Below.heap_alloc _ _ _ Pm).trans (UZ _ _));have Z:Hid (f.heap[D+1]?=Ts (Tq #[zz,zz] 42 (0,0))):=Tn (by rw[<-r,<-C];have:=UZ (w.alloc (Tq #[Tm a N c,Tm b M d] 42)) (Tq #[zz,zz] 42);rwa[Ud]at this);have Q:w.heap.size<=D+1:=Ph;PM T fun c0 c1=>?_;go_enter func46,ntmps46;go_upto_region 1 with fail;try rw[r]
 try rw[C]
 go_wp2_with fail;refine P2 (jZ s _ _ f (R.ext B)) fun t x=>P3 (aa B x) ((x.block D (UE.1 T).1).trans T) ((x.block (D+1) (UE.1 Z).1).trans Z) fun y J m=>have P:=Tn (R.ext y);PM J fun c0 c1=>?_;have X:gH s=2/\65536<N+M\/gH s=0/\N+M<=65536:=by
  rw[<-HN.out,<-L.out];unfold gH;split<;>omega
 refine PM m fun e0 am=>PO m fun g0 g1=>have j:=Tn (bz m Q y (zz) (zz));?_;rcases X with⟨o,_⟩|⟨o,hsm⟩
 .have l:Hid (fg s keep=2):=Tn (by unfold fg;rw[o];rfl);rw[o];go_wp2_with fail;exact PM j.1 fun q0 q1=>VC (v:=UW #[UT #[zz,zz],Ti Tl 2]) Qd rfl RD
 have HW:=Tn o;by_cases K:keep<0
 .have l:Hid (fg s keep=1):=Tn (by unfold fg;rw[o,if_neg Pi,if_pos (.inl K)]);exact TW
 obtain⟨q,rfl⟩:∃q:Nat,keep=q:=⟨keep.toNat,Ph⟩;by_cases hbig:M<q
 .have l:Hid (fg s q=1):=Tn (by unfold fg;rw[o,if_neg Pi,if_pos (.inr (by have:=L.out;omega))]);have Y:((M:Int))<(q:Int):=Ph;exact TW
 have l:Hid (fg s q=0):=Tn (by unfold fg;rw[o,if_neg Pi,if_neg (by have:=L.out;omega)]);have Y:¬((M:Int))<(q:Int):=Ph;have U:q<=M:=Ph;rw[o];have hMd:M<=d:=by obtain⟨_,⟨_,_,hv,h1,_⟩⟩:=R.out;cases hv;rw[<-L.out];exact h1
 have hqd:q<=d:=Ph;have E:∀W,aq t W->VB UB 101 #[UT #[Tm a N c,Tm b q d]] W (mP 0 (iM s q) W):=fun W g=>by
  have h1:gn W (Tm a N c) (Tm b q d) ⟨s.safe,s.opn.take q⟩:=⟨(P.ext g).safe,aJ.take L (P.ext g).opn U⟩;have h2:=yP ⟨s.safe,s.opn.take q⟩ _ _ W h1;have A:gH ⟨s.safe,s.opn.take q⟩=0:=sA.2 (by dsimp only;rw[VZ,HN.out];omega);rw[A]at h2;exact h2
 have E:=Tn E;go_upto_region 6 with fail;first|(go_region_with (go_at_call 101;refine(E _ (ap _)).mono ?_;rintro e I⟨u2,v2,rfl,O,-,H⟩;refine P4 (H rfl) (aa (ap _) O) fun G F=>?_;obtain⟨a2,c2,b2,d2,rfl,rfl⟩:=G.out.form;have p:=Tn ((F.block (D+1) (UE.1 m).1).trans m);refine PM p fun e0 am=>?_;refine PO p fun g0 g1=>?_))|fail
 all_goals
  refine P4 (bz p Q (aa y F) (Tm a2 (Xt (iM s q).safe) c2) (Tm b2 (Xt (iM s q).opn) d2)) ((Uz (S:=fun i=>i=D+1) I ⟨D+1,0,U8⟩ (Tm a2 (Xt (iM s q).safe) c2) rfl).trans (Uz (S:=fun i=>i=D+1) _ ⟨D+1,1,U8⟩ (Tm b2 (Xt (iM s q).opn) d2) rfl)) fun z HFF=>?_
  have V:=Tn (G.off HFF (oV p))
  go_wp2_with fail
  refine PM z.1 fun q0 q1=>?_
  exact VC (v:=UW #[UT #[Tm a2 (Xt (iM s q).safe) c2,Tm b2 (Xt (iM s q).opn) d2],Ti Tl 0]) Qd rfl (by rw[l.out];exact mP.yes V z.2)
def Hm(s:au)(j):bB (s.take j)<=bB s:=by
 conv=>rhs;rw[<-Xv j s,Ac]
 have h:1<=256^(s.drop j).length:=Nat.one_le_pow _ _ Pi;have:=Nat.mul_le_mul_left (bB (s.take j)) h;omega
def abH{s:au}(h:i<=j):bB (s.take i)<=bB (s.take j):=by
 have:=Hm (s.take j) i;rwa[List.take_take,Ys h]at this
def uj{s:au}{c:UInt8}(h:s[j]?=Ts c):bB (s.take (j+1))=bB (s.take j)*256+c.toNat:=by rw[aW h,FL]
def ze{s:au}(h:s.length<20):dA s=U8:=by unfold dA;rw[if_pos h]
def Lh{s:au}(h:4096<bB (s.take 4)):dA s=U8:=by unfold dA;rw[if_pos h];split<;>rfl
def DH{s:au}(h:s.length<20+bB (s.take 4)):dA s=U8:=by
 unfold dA;rw[if_pos h];split
 .rfl
 split<;>rfl
def aaQ{s:au}(hn:bB (s.take 4)=n)(h1:n<=4096)(c:20+n<=s.length):dA s=if eq (bF ((s.drop 4).take n))==(s.drop (4+n)).take 16 then Ts ((s.drop 4).take n)else U8:=by
 unfold dA;rw[hn,if_neg Ph,if_neg Ph,if_neg Ph];by_cases J:(s.drop (4+n)).take 16=eq (bF ((s.drop 4).take n))
 .rw[if_neg (by simp[J]),if_pos (by rw[J];exact beq_self_eq_true _)]
 rw[if_pos J,if_neg (by simpa using fun h=>J h.symm)]
def DV(s:au)(i k:Nat):Prop:=∃b:List (au×Nat),b.length=k/\aO s=b++bm (s.length-i) (s.drop i) i/\i<=s.length
def wO(s:au):DV s 0 0:=⟨[],rfl,by simp[aO],VF _⟩
def mz{s:au}(h:DV s i k)(b:dA (s.drop i)=U8):(aO s).length=k:=by
 obtain⟨c,x,cf,hi⟩:=h;have:bm (s.length-i) (s.drop i) i=[]:=by
  cases K:s.length-i with
  |zero=>rw[bm]
  |succ f=>rw[bI,b]
 rw[cf,this,Ww];exact x
def JW{s b:au}(h:DV s i k)(d:dA (s.drop i)=Ts b):(aO s)[k]?=Ts (b,i+(20+b.length))/\DV s (i+(20+b.length)) (k+1):=by
 obtain⟨c,x,cf,hi⟩:=h;obtain⟨L,_⟩:=eR d;rw[VT]at L;have e:bm (s.length-i) (s.drop i) i=(b,i+(20+b.length))::bm (s.length-(i+(20+b.length))) (s.drop (i+(20+b.length))) (i+(20+b.length)):=by
  rw[show s.length-i=(s.length-i-1)+1 from Ph,bI,d];dsimp only;rw[YZ];rw[il _ (s.length-(i+(20+b.length))) _ _ Py Py]
 rw[e]at cf;refine⟨?_,c++[(b,i+(20+b.length))],by simp[x],by rw[cf];simp,Ph⟩;rw[cf,WH Ph,x,Nat.sub_self];rfl
def B9{s:au}:∀(f i:Nat),∀p∈bm f (s.drop i) i,i<=s.length->i+4<=p.2-16-p.1.length/\p.1=(s.drop (p.2-16-p.1.length)).take p.1.length/\20+p.1.length<=p.2/\p.2<=s.length/\p.1.length<=4096
 |0,i,p,x,_=>by rw[bm]at x;cases x
 |f+1,i,p,x,hi=>by
  rw[bI]at x;cases d:dA (s.drop i)with
  |none=>rw[d]at x;cases x
  |some b=>
   rw[d]at x;obtain⟨L,h1,c,A⟩:=eR d;rw[VT]at L;rcases VN.1 x with rfl|x
   .refine⟨Zbn,?_,Zbn,Zbn,h1⟩;dsimp only;rw[show i+(20+b.length)-16-b.length=i+4 from Ph,<-YZ,A]
   rw[YZ]at x;obtain⟨o,j,g,l,m⟩:=B9 f (i+(20+b.length)) p x Ph;exact⟨Ph,j,g,l,m⟩
def sH{s:au}{p:au×Nat}(x:p∈aO s):p.1=(s.drop (p.2-16-p.1.length)).take p.1.length/\20+p.1.length<=p.2/\p.2<=s.length/\p.1.length<=4096:=by
 unfold aO at x;have:=B9 (s:=s) s.length 0 p (by rwa[List.drop_zero]) (VF _);exact this.2
def uO{c:Code}{a}(h:c.wpIn Wx 0 P (Exit.noGoto Q) a w):(Code.scope c).wpIn Wx 0 P Q a w:=(WV (n:=0)).2 (wp_scope_straight ((WV (n:=0)).1 h))
def Ny(a:Option VW)(C:Nat)(p:au×Nat):Array UV:=#[Tm (a.map fun q=>⟨q.block,q.off+(p.2-16-p.1.length),U8⟩) p.1.length (C-(p.2-16-p.1.length)),Ti Tl p.2]
def CI{b o C:Nat}{s:au}(h:aY w (Ts ⟨b,o,U8⟩) s)(g:i+k<=s.length)(d:s.length<=C)(c:C<=VL):aJ w (Tm (Ts ⟨b,o+i,U8⟩) k (C-i)) ((s.drop i).take k):=by
 refine⟨Ts ⟨b,o+i,U8⟩,C-i,RP,RI,Ph,?_⟩;intro j x m;rw[XM]at m;split at m
 .rw[YE]at m;obtain⟨f,o',hb,J⟩:=h (i+j) x m;cases hb;exact⟨b,o+i,rfl,RO⟩
 cases m
def xy(a n C)(w:UN):
  VB UB 116 #[Tm a n C] w fun e b=>
   e=UO (.func (.func 181) #[] #[UK (Ts ⟨w.heap.size,0,U8⟩)])/\b=w.alloc (Tq #[Tm a n C] 37):=by
 go_enter func116,ntmps116;exact U7
def tw(s:au)(bb a C)(hC:s.length<=C)(hM:C<=VL)(hl:s.length<=100000000):
  NH UB 181 #[UK (Ts ⟨bb,0,U8⟩)] (Ny a C) (aO s) (fun W=>VX W bb 37 (Tm a s.length C)/\aY W a s) (fun _=>False) (fun k=>k=bb\/∃p,a=Ts p/\k=p.block):=by
 intro y J Jx W B hJ hJx hY L;obtain⟨B,hby⟩:=B;have K:=Tn hby;refine callsIn_of_wp func181 rfl trivial ?_ rfl;simp only[ntmps181,WG,Up,VJ,VO,YI,WX,WY,XF,Wi,Vd,Vu];have c0:=B.cell;refine P5 B hY L hJ fun B0 HY H0 HJ=>P1 s.length fun N hN=>have l:=Tn hN;?_;rw[hN]at hC hl c0 B0;have hMm:VL=9223372036854775807:=rfl;clear B hJ hJx hY L hby hN;by_cases hs20:N<20
 .have T:=Tn (mz (wO s) (ze XH));apply uO;gi_wp2_with fail
  apply wpIn_label;gi_wp2_with fail
  gi_loopw [3] (fun i wr=>i=Ti Tl 0/\VX wr bb 37 (Tm a N C)/\J 0 wr) (fun _ _=>0)
  case atStart=>exact⟨rfl,B0,H0⟩
  obtain⟨rfl,g0,Q⟩:=hrel;have G:=Tn Q;have d0:=g0.cell;clear g0 Q;exact Ta
 obtain⟨b,o,rfl,_⟩:=K.out 0 (s[0]'Zay) (V8 _);have R:b<W.heap.size:=by obtain⟨b',o',Y,hc'⟩:=K.out 0 (s[0]'Zay) (V8 _);cases Y;exact aR hc'
 apply uO;gi_wp2_with fail
 apply wpIn_label;gi_wp2_with fail
 gi_loopw [3] (fun i wr=>∃m k:Nat,i=Ti Tl m/\DV s m k/\VX wr bb 37 (Tm (Ts ⟨b,o,U8⟩) N C)/\aY wr (Ts ⟨b,o,U8⟩) s/\J k wr) (fun i _=>N-(VS i).toNat)
 case atStart=>exact⟨0,0,rfl,wO s,B0,K,H0⟩
 obtain⟨m,k,rfl,S,g0,hbw,Q⟩:=hrel;refine P5 S Q hbw g0 fun z G HBW G0=>have d0:=g0.cell;?_;have hmN:m<=N:=by obtain⟨_,_,_,h⟩:=S;have:=l.out;omega
 clear g0 Q hbw S;by_cases hshort:N<m+20
 .have T:=Tn (mz z (ze XH));exact Ta
 gi_wp2_with fail
 gi_loopw [20,4] (fun i n w2=>∃j x:Nat,j<=4/\i=Ti Tl j/\n=Ti Tl x/\x=bB ((s.drop m).take j)/\x<=4096/\VX w2 bb 37 (Tm (Ts ⟨b,o,U8⟩) N C)/\aY w2 (Ts ⟨b,o,U8⟩) s/\J k w2) (fun i _ _=>4-(VS i).toNat)
 case atStart=>exact⟨0,0,Ph,rfl,rfl,by rw[Wk];rfl,Ph,G0,HBW,G⟩
 obtain⟨j,x,hj4,rfl,rfl,hx,hx4,g1,hb1,hj1⟩:=hrel;refine P5 hx hj1 hb1 g1 fun T A F G1=>have am:=g1.cell;?_;clear g1 hb1 hj1 hx d0;by_cases Q:j<4
 .obtain⟨c,hc⟩:∃c,s[m+j]?=Ts c:=⟨_,V8 Zay⟩;obtain⟨b',o',hbo,P⟩:=F.out (m+j) c hc;obtain⟨rfl,rfl⟩:b=b'/\o=o':=by cases hbo;exact⟨rfl,rfl⟩
  have hnx:bB ((s.drop m).take (j+1))=x*256+c.toNat:=by rw[T.out];exact uj (by rw[YE];exact hc)
  have HNX:=Tn hnx;have hcl:=c.toNat_lt;rw[show o+(m+j)=o+m+j from Ph]at P;clear hbo hc hnx;by_cases hbig:4096<x*256+c.toNat
  .have Y:(4096:Int)<(x:Int)*256+(c.toNat:Int):=by omega
   have u:=Tn (mz z (Lh (Nat.lt_of_lt_of_le (by rw[HNX.out];exact hbig) (abH (s:=s.drop m) (i:=j+1) (j:=4) Ph))));exact Te
  have Y:¬(4096:Int)<(x:Int)*256+(c.toNat:Int):=by omega
  gi_wp2_with fail
  go_roundw
  case rel=>exact⟨j+1,x*256+c.toNat,Ph,Pt,Pt,HNX.symm,Ph,G1,F,A⟩
  case measure=>simp[VS];omega
 obtain rfl:j=4:=by omega
 have hLm:m<=N:=hmN;by_cases hend:N<m+(20+x)
 .have u:=Tn (mz z (DH (by rw[VT,<-T.out];have:=l.out;omega)));have he':(N:Int)<(m:Int)+4+(x:Int)+16:=Ph;exact Te
 have he':¬(N:Int)<(m:Int)+4+(x:Int)+16:=by omega
 gi_wp2_with fail
 refine P1 ((s.drop (m+4)).take x) fun X I=>P1 ((s.drop (m+4+x)).take 16) fun d hT=>have H:Hid (X.length=x):=Tn (by rw[<-I,VZ,VT,l.out];omega);have HXV:Hid (aJ wr (Tm (Ts ⟨b,o+(m+4),U8⟩) x (C-(m+4))) X):=Tn (by rw[<-I];exact CI F (by rw[l.out];omega) (by rw[l.out];exact hC) hM);have HTV:Hid (aJ wr (Tm (Ts ⟨b,o+(m+4+x),U8⟩) 16 (C-(m+4+x))) d):=Tn (by rw[<-hT];exact CI F (by rw[l.out];omega) (by rw[l.out];exact hC) hM);?_
 have HHF:Hid (dA (s.drop m)=if eq (bF X)==d then Ts X else U8):=Tn (by
  have h:=aaQ (s:=s.drop m) (n:=x) T.symm hx4 (by rw[VT,l.out];omega);rw[YZ,YZ,<-Nat.add_assoc m 4 x,I,hT]at h
  exact h)
 have HEN:Hid (Ny (Ts ⟨b,o,U8⟩) C (X,m+(20+X.length))=#[Tm (Ts ⟨b,o+(m+4),U8⟩) x (C-(m+4)),Ti Tl ((m:Int)+4+(x:Int)+16)]):=Tn (by
  unfold Ny;dsimp only[Xb]
  rw[H.out,show m+(20+x)-16-x=m+4 from Ph,show((m+(20+x):Nat):Int)=(m:Int)+4+(x:Int)+16 from Ph])
 clear I hT;have i1:Tl.wrap ((m:Int)+4+(x:Int))=(m:Int)+4+(x:Int):=Yo _ Ph;have i2:max ((m:Int)+4+(x:Int)+16) 0=(m:Int)+4+(x:Int)+16:=Ph;have i3:((m:Int)+4+(x:Int)).toNat=m+4+x:=Ph;have i4:((m:Int)+4+(x:Int)+16).toNat=m+4+x+16:=Ph;have i5:¬C=m+4+x:=Ph;have i6:m+4+x+16-(m+4+x)=16:=Ph;have i7:(0:Int)<=(m:Int)+4+(x:Int):=Ph;have i8:(m:Int)+4+(x:Int)<=(m:Int)+4+(x:Int)+16:=Ph;have i9:(m:Int)+4+(x:Int)+16<=(C:Int):=Ph;have i10:(0:Int)<=(m:Int)+4+(x:Int)+16:=Ph;obtain⟨q,hq⟩:∃q,(eq (bF X)==d)=q:=⟨_,rfl⟩;have HQ:=Tn hq;clear hq;cases q
 .have u:=Tn (mz z (by rw[HHF.out,HQ.out];rfl));refine(WV (n:=0)).2 ?_;first|(go_region_with (first|(go_at_call 10;refine(fF X _ _ (HXV.ext (ap _)) Zfx).mono ?_;rintro e w3⟨rfl,V⟩;have Id:=Tn (aa (ap _) V);have z3:=ae am Id;clear V)|(go_at_call 110;refine(qt X _).mono ?_;rintro e w4⟨v4,rfl,r,t⟩;refine P4 (aa Id t) (Yz rfl r) fun f O=>?_;have z4:=ae am f;clear r t)|(go_at_call 87;refine(wq (eq (bF X)) d _ _ _ O (HTV.ext f)).mono ?_;rintro e w5⟨rfl,D⟩;rw[HQ.out];have E:=Tn (aa f D);clear D)))|fail
  all_goals
   gi_wp2_with fail
   try rw[Exit.noGoto_normal]
   go_end0
   exact⟨⟨_,rfl⟩,.inl (by rw[u.out];exact HJ.out _ _ _ A (Uh E))⟩
 have M:=Tn (JW z (b:=X) (by rw[HHF.out,HQ.out];rfl));first|(gi_region_with (first|(refine⟨QS,QS,(Vn.2 (fF X _ _ (HXV.ext (ap _)) Zfx)).mono ?_⟩;rintro e w3⟨rfl,V⟩;have Id:=Tn (aa (ap _) V);have z3:=ae am Id;clear V)|(refine⟨QS,QS,(Vn.2 (qt X _)).mono ?_⟩;rintro e w4⟨v4,rfl,r,t⟩;refine P4 (aa Id t) (Yz rfl r) fun f O=>?_;have z4:=ae am f;clear r t)|(refine⟨QS,QS,(Vn.2 (wq (eq (bF X)) d _ _ _ O (HTV.ext f))).mono ?_⟩;rintro e w5⟨rfl,D⟩;rw[HQ.out];have E:=Tn (aa f D);clear D;obtain⟨fn,tmps,assign,body,U,hR⟩:=HY.out k _ w5 M.1 (HJ _ _ _ A (Uh E));rw[HEN.out]at U;have Z:=Tn hR;clear hR)|(refine⟨QS,(Z.mono fun e' W' h=>ahS h).mono ?_⟩;rintro e' W'⟨bo,rfl,hbb⟩;have HBB:=Tn hbb;clear hbb)))|fail
 all_goals
  cases bo
  .gi_wp2_with fail
   (try rw[Exit.noGoto_normal]);go_end0
   exact⟨⟨_,rfl⟩,.inr ⟨k+1,(UU.1 M.1).1,HBB.2 Za4⟩⟩
  obtain⟨hJ',g⟩:=HBB.out.1 rfl;refine P4 (g.boxed (aC E G1) (fun h=>h (.inl rfl))) hJ' fun K0 KJ=>?_
  have KB:Hid (aY W' (Ts ⟨b,o,U8⟩) s):=Tn (fun i c hc=>by
   obtain⟨b',o',hb,hcc⟩:=(F.ext E) i c hc;cases hb
   exact⟨b,o,rfl,(g.cell (p:=⟨b,o+i,U8⟩) (aR hcc) (fun h=>h (.inr ⟨_,rfl,rfl⟩))).trans hcc⟩)
  clear hJ' g;gi_wp2_with fail
  go_roundw
  case rel=>exact⟨m+(20+X.length),k+1,by rw[H.out];go_num,M.2,K0,KB,KJ⟩
  case measure=>simp[VS];omega
def FZ(l:List au):er [] (l.take 0)=Ts []:=by rw[Wk,er]
def KI{l:List au}{acc:List Dn}{b:au}(h:er [] (l.take k)=Ts acc)(hb:l[k]?=Ts b)(u:pY b=true)(J:acc.any (cI (nu b))=false):
  er [] (l.take (k+1))=Ts (acc++[nu b]):=by
 have e:l.take (k+1)=l.take k++[b]:=by
  rw[Xk,hb];rfl
 rw[e,jK _ _ _ _ h,er,u,J];rfl
def za{l:List au}{acc:List Dn}{b:au}(h:er [] (l.take k)=Ts acc)(hb:l[k]?=Ts b)(hn:pY b=false\/acc.any (cI (nu b))=true):er [] l=U8:=by
 have o:k<l.length:=(UU.1 hb).1;have e:l=l.take k++(b::l.drop (k+1)):=by
  have c:l[k]=b:=(UU.1 hb).2;rw[<-c,<-List.drop_eq_getElem_cons o,Xv]
 rw[e,jK _ _ _ _ h,er];rcases hn with hn|hn
 .rw[hn];rfl
 rw[hn,Bool.not_true,Bool.and_false];rfl
def NI{l:List au}{acc:List Dn}(h:er [] (l.take k)=Ts acc)(o:l.length<=k):er [] l=Ts acc:=by
 rwa[VD o]at h
def Mt{l:List au}{acc:List Dn}(h:er [] (l.take k)=Ts acc):acc.length<=k:=by
 obtain⟨t,rfl,b⟩:=jU _ _ _ h;rw[b,VZ];exact Nat.min_le_left _ _
def pZ:∀(f:Nat)(s:au)(i:Nat),20*(bm f s i).length<=s.length
 |0,s,i=>by rw[bm];simp
 |f+1,s,i=>by
  rw[bI];cases h:dA s with
  |none=>simp
  |some b=>
   obtain⟨L,_⟩:=eR h;have:=pZ f (s.drop (20+b.length)) (i+(20+b.length));rw[VT]at this;simp only[Up];omega
def jN(s:au):20*(aO s).length<=s.length:=pZ _ _ _
def yJ{s:au}{p:au×Nat}(h:(aO s)[k]?=Ts p):eE ((aO s).take (k+1))=p.2:=by
 rw[Xk,h];unfold eE;simp
structure kS(base:Nat)(v:UV)(w:UN)(acc:List (au×UV)):Prop where
 own:w.ownsRow base 37 1 v acc.length (acc.map (·.2))
 its:∀p∈acc,w.ownsRow base 5 1 p.2 p.1.length (VH p.1)
def kS.nil(base)(w:UN):kS base (zz) w []:=⟨WO _ _ _ _,fun p x=>Zbq⟩
def kS.fr{base}{acc:List (au×UV)}(h:kS base v w acc)(P:Fr S w b)(l:∀k,base<=k->k<w.heap.size->¬S k):kS base v b acc:=
 ⟨eM h.own P (fun g c e=>by have:=h.own.lt g c;exact l g this.1 this.2 e),fun p x=>eM (h.its p x) P (fun g c e=>by have:=(h.its p x).lt g c;exact l g this.1 this.2 e)⟩
def kS.ext{base}{acc:List (au×UV)}(h:kS base v w acc)(g:aq w b):kS base v b acc:=h.fr (Uh (S:=fun _=>False) g) (fun _ _ _ o=>o)
def kS.mono{base base'}{acc:List (au×UV)}(h:kS base v w acc)(hb:base'<=base):kS base' v w acc:=⟨h.own.mono hb,fun p x=>(h.its p x).mono hb⟩
def kS.snoc{base d}{s:au}{acc:List (au×UV)}{o:Obj}(h:kS base v w acc)(X:w.ownsRow base 5 1 u s.length (VH s))(r:b.ownsRow base 37 1 d (acc.length+1) (acc.map (·.2)++[u]))(S:(w.alloc o).grownBy b v.ownBlock):kS base d b (acc++[(s,u)]):=by
 refine⟨by rw[Uo,List.length_singleton,WK];exact r,fun p x=>?_⟩;have c:w.ownsRow base 5 1 p.2 p.1.length (VH p.1):=by
  rcases List.mem_append.1 x with x|x
  .exact h.its p x
  rw[VP]at x;rw[x];exact X
 exact(c.alloc o).kept S (gR (c.alloc o) (h.own.alloc o) Pi)
def kS.row{base}{acc:List (au×UV)}{p:au×UV}(h:kS base v w acc)(x:acc[k]?=Ts p):aJ w p.2 p.1:=Yz rfl (h.its p (Uv x))
def Oz{s:au}{C:Nat}{p:au×Nat}(j:s.length<=C)(g:C<=VL)(h:aY W a s)(f:p∈aO s):
  aJ W (Tm (a.map fun q=>⟨q.block,q.off+(p.2-16-p.1.length),U8⟩) p.1.length (C-(p.2-16-p.1.length))) p.1:=by
 obtain⟨h1,c,A,l⟩:=sH f;refine⟨_,_,rfl,Ph,Ph,?_⟩;intro i x m;have d:s[p.2-16-p.1.length+i]?=Ts x:=by
  rw[h1,XM]at m;split at m
  .rwa[YE]at m
  cases m
 obtain⟨b,o,rfl,J⟩:=h _ x d;exact⟨b,o+(p.2-16-p.1.length),rfl,RO⟩
def oC(n)(w:UN):VB UB 83 #[Ti Tl n] w fun e b=>e=UO (U1 (dZ n))/\b=w:=by
 go_enter func83,ntmps83;go_upto_region 1 with fail;refine aG (fun b=>w=b) rfl ?_;exact TT
def yL(s:au)(v w)(h:aJ w v s):VB UB 82 #[v] w fun e b=>e=UO (U1 (dz s))/\b=w:=by
 obtain⟨a,c,rfl,h1,m,_⟩:=h;have K:VL=9223372036854775807:=rfl;have d:s.length<=9223372036854775807:=Ph;unfold dz;refine P1 s.length fun N f=>?_;rw[f]at d⊢;go_enter func82,ntmps82;go_upto_region 1 with fail;refine aG (fun b=>w=b) rfl ?_;repeat
  (first|refine az rfl rfl rfl rfl ?_|refine aF rfl rfl rfl rfl ?_|refine aw rfl ?_|refine aj rfl rfl rfl rfl rfl ?_|((first|refine av (v:=?_) rfl rfl (fun hb b l=>?_) ?_|refine ar (v:=?_) rfl rfl rfl (fun j hb b l=>?_) ?_|refine ax (v:=?_) rfl (fun b l=>?_) ?_);rotate_left;(focus(subst l;unfold ak;go_simp;first|exact aD rfl))))
  simp only[Ua,P7]
 refine aA fun b g=>?_;subst g;go_wp2;go_ret;refine⟨lh ?_,rfl⟩;rw[show decide (0<N)=decide ((0:Int)<(N:Int))from QC,show decide (N<=2048)=decide ((N:Int)<=2048)from QC]
def qX(n k j:Nat):UV:=if j<k then Ti Uy ((VI (n/256^(7-j))).toNat:Int)else Ti Uy 0
def zM(n k:Nat):Array UV:=#[qX n k 0,qX n k 1,qX n k 2,qX n k 3,qX n k 4,qX n k 5,qX n k 6,qX n k 7]
def abZ(n):zM n 0=#[Ti Uy 0,Ti Uy 0,Ti Uy 0,Ti Uy 0,Ti Uy 0,Ti Uy 0,Ti Uy 0,Ti Uy 0]:=rfl
def abS(n):zM n 8=Ee n 8:=rfl
def FM(n k)(h:k<8):(zM n k).setIfInBounds k (Ti Uy ((VI (n/256^(7-k))).toNat:Int))=zM n (k+1):=by
 obtain rfl|rfl|rfl|rfl|rfl|rfl|rfl|rfl:k=0\/k=1\/k=2\/k=3\/k=4\/k=5\/k=6\/k=7:=Ph;all_goals rfl
def zH(n w):
  VB UB 157 #[Ti Tl n] w (fun e r=>∃v,e=UO v/\aJ r v (fq n)/\aq w r):=by
 unfold fq;refine P1 ((n%2^64).toNat) fun u X=>?_;rw[X];have f:(u:Int)=n%2^64:=Ph;have l:=Tn f;refine P1 w.heap.size fun B j=>have x:=Tn j;P1 (w.alloc (Tq #[Ti Uy 0,Ti Uy 0,Ti Uy 0,Ti Uy 0,Ti Uy 0,Ti Uy 0,Ti Uy 0,Ti Uy 0] 305)) fun t T=>have Z:Hid (t.heap[B]?=Ts (Tq (zM u 0) 305 (0,0))):=Tn (by rw[<-T,<-j,abZ];exact UZ w _);have s:Hid (aq w t):=Tn QA;?_;clear X;go_enter func157,ntmps157;go_wp2_with fail;try rw[T]
 try rw[j]
 clear T j;go_loopw [5] (fun i wr=>∃k:Nat,k<=8/\i=Ti Tl k/\wr.heap[B]?=Ts (Tq (zM u k) 305 (0,0))/\aq w wr) (fun i _=>8-(VS i).toNat)
 case atStart=>exact⟨0,Ph,rfl,Z,s⟩
 obtain⟨k,o,rfl,q,g⟩:=hrel;refine P4 q g fun c ys=>?_;by_cases R:k<8
 .have J:wr.cell? ⟨B,k,U8⟩=Ts (qX u k k):=by
   unfold Wc;rw[c.out];obtain rfl|rfl|rfl|rfl|rfl|rfl|rfl|rfl:k=0\/k=1\/k=2\/k=3\/k=4\/k=5\/k=6\/k=7:=Ph;all_goals rfl
  have cf:=frozen_of_row wr B k _ _ c;have d:n/2^(56-8*k)%256=((VI (u/256^(7-k))).toNat:Int):=by
   have:=l.out;obtain rfl|rfl|rfl|rfl|rfl|rfl|rfl|rfl:k=0\/k=1\/k=2\/k=3\/k=4\/k=5\/k=6\/k=7:=Ph;all_goals
    simp only[UInt8.toNat_ofNat']
    omega
  have m:=Tn d;clear d;go_wp2_with fail;rw[m.out];go_roundw
  case rel=>
   refine⟨k+1,Ph,Pt,?_,((Uh (S:=fun _=>False) ys).onto (Uz (S:=fun b=>b=B) wr ⟨B,k,U8⟩ _ rfl) (fun i hi h=>by have:=x.out;omega)).ext (fun _ _ h=>h)⟩;rw[<-FM u k R];exact VE wr B k _ _ _ c
  case measure=>simp[VS];omega
 obtain rfl:k=8:=by omega
 have p:=Tn (zD (n:=u) (by rw[<-abS];exact c.out));go_wp2;go_ret;exact⟨_,rfl,p,ys⟩
def nM(b):∀(vs:List UV)(o:Nat)(w:UN),Fr (fun k=>k=b) w (w.setCells b o vs)
 |[],_,w=>Z5 _ w
 |v::vs,o,w=>(Uz (S:=fun k=>k=b) w ⟨b,o,U8⟩ v rfl).trans (nM b vs (o+1) _)
def Mo{c d}{s t:au}{p}{M:Nat×Nat}(G:WR)(L:W.heap[g]?=Ts (Tq p 5 M))(T:c<=M.1)(N:p.size=c)(hn:s.length=n)(U:n<=c)(J:c<=VL)(z:∀(i:Nat)(x:UInt8),s[i]?=Ts x->p[i]?=Ts (Ti Uy (x.toNat:Int)))(ht:aJ W (Tm a m d) t)(V:n+m<=1000000):
  ∃P I,(YU #[37,37] G #[Tm (Ts ⟨g,0,U8⟩) n c,Tm a m d]).run UB W= .ok P I/\aJ I P (s++t)/\Fr (fun k=>k=g) W I:=by
 obtain⟨i0,hi,F,l,C⟩:=WN lz;obtain⟨a',d',Y,h1,h2,A⟩:=ht;injection Y with e1 e2 e3
 subst e1;subst e3;have b:∀j,j<c->W.cell? ⟨g,j,U8⟩=p[j]? :=fun j _=>by unfold Wc;rw[L];rfl
 have q:∀o,o=VH t->Src UB i0.size 37 (Tm a m d) m o W:=fun o r=>by
  subst r;rw[l];cases a with
  |none=>
   have:=eh A;have H:m=0:=Ph;obtain rfl:t=[]:=VA this;rw[H];exact Src.ofNil W underlying37 d
  |some R=>exact Src.ofSlice W underlying37 R m d (VH t) (by rw[bC,XT,e2]) (A.news R rfl) (dM t)
 have K:(VH t).length=m:=by rw[bC,e2]
 by_cases y:n+m<=c
 .have h:=run_append_room_src W 37 37 G 5 i0 underlying37 hi g 0 n c (Tm a m d) m (VH t) (q _ rfl) y
   (fun j Q=>by rw[l,b _ Ph,Vy Ph];rfl)
   (fun j Q=>by unfold World.frozen?;rw[L];simp only[l];simp;omega)
  rw[l]at h;refine⟨_,_,h,⟨Ts ⟨g,0,U8⟩,c,by rw[Uo,hn,e2],Sq,J,fun i x f=>⟨g,0,rfl,?_⟩⟩,nM g _ _ W⟩;rw[show 0+i=i from VY i];by_cases S:i<n
  .rw[List.getElem?_append_left Ph]at f;rw[World.cell?_setCells_out g _ _ _ _ (fun _ _=> .inl (by show i<0+n*1;omega)),b _ Ph];exact z i x f
  rw[WH Ph,hn]at f;have Q:i-n<m:=by have:=(UU.1 f).1;omega
  have O:=World.cell?_setCells_in g (VH t) (0+n*1) W (fun j Q=>by rw[b _ Ph,Vy Ph];rfl) (i-n) Ph;rw[show 0+n*1+(i-n)=i from Ph]at O;rw[O];have D:=(UU.1 f).2;simp[VH,D]
 have B:(Builtin.firstCells i0.size n (Tm (Ts ⟨g,0,U8⟩) n c)).run UB W.drew= .ok (VH s).toArray W.drew:=by
  rw[l]
  exact run_firstCells_some W.drew 1 n ⟨g,0,U8⟩ n c (VH s) (by rw[bC,hn,XT]) (fun j u X=>by
   rw[show((⟨g,0,U8⟩:VW).add j)=⟨g,j,U8⟩from Px];unfold VH at X;rw[VU]at X;cases f:s[j]? with
   |none=>rw[f]at X;cases X
   |some x=>
    rw[f]at X;cases X;have Q:=(UU.1 f).1
    exact(b j Ph).trans (z j x f))
 have h:=run_append_grow_src W 37 37 G 5 i0 (Ti Uy 0) underlying37 hi F (Ts ⟨g,0,U8⟩) n c (VH s) B (Tm a m d) m (VH t) (q _ rfl) Ph Ph (growslice_fits Ph (by rw[C];omega));have hG:n+m<=Yt W (n+m) c 5:=grownCap_ge W (n+m) c 5;have Z:=Yh W (n+m) c 5 Pr;refine⟨_,_,h,⟨Ts ⟨W.heap.size,0,U8⟩,_,by rw[Uo,hn,e2],Sq,Z,fun i x f=>⟨W.heap.size,0,rfl,?_⟩⟩,(Fr.drew _ W).trans (Fr.alloc _ W.drew _)⟩;rw[show 0+i=i from VY i];have E:=(UU.1 f).1;rw[Uo]at E;unfold Wc;rw[show(W.drew.alloc _).heap[W.heap.size]?=_ from UZ W.drew _];dsimp only;rw[Array.getElem?_append_left (by simp[bC];omega),<-lN,List.getElem?_toArray];unfold VH;rw[VU,f];rfl
def vu:(UB.info? 175).map (fun i=>(i.zero,i.size,i.bytes))=Ts (Ts (UT #[zz,Ti Tl 0]),2,32):=Pg
def GU(n:Nat)(w:UN)(hn:n<=1000000000):VB UB 209 #[zz,Ti Tl n] w (fun e b=>∃v,e=UO v/\b.ownsRow w.heap.size 175 2 v 0 []/\aq w b):=by
 obtain⟨i0,hi,m,l,j⟩:=WN vu;by_cases L:n=0
 .subst L;go_enter func209,ntmps209;exact U5
 have h1:¬((n:Int)<0):=by omega
 have c:(n:Int)>0:=Ph;have g:∀q,(YU #[83,3] q #[zz,Ti Tl (n:Int)]).run UB w=
   .ok (Tm (Ts ⟨w.heap.size,0,U8⟩) (0+n) (Yt w (0+n) 0 175)) (w.drew.alloc (Tq (([]:List UV).toArray++WP (UT #[zz,Ti Tl 0]:UV).cells n++WP (UT #[zz,Ti Tl 0]:UV).cells (Yt w (0+n) 0 175-(0+n))) 175)):=fun q=>
  Lib.run_append_grow_zeros w 83 3 q 175 i0 (UT #[zz,Ti Tl 0]) Tl Tl underlying83 underlying3 hi m U8 0 0 [] (run_firstCells_none w.drew i0.size 0 0 0) n Ph (by rw[l];decide) Ph Ph Zbd
   (growslice_fits Ph Zbd)
 have s:n<=Yt w (0+n) 0 175:=by have:=grownCap_ge w (0+n) 0 175;omega
 have r:=Yh w (0+n) 0 175 Pr;refine P1 (Yt w (0+n) 0 175) fun G o=>?_;rw[o]at g s r;obtain⟨f,d⟩:∃f:Array UV,([]:List UV).toArray++WP (UT #[zz,Ti Tl 0]:UV).cells n++WP (UT #[zz,Ti Tl 0]:UV).cells (G-(0+n))=f:=⟨_,rfl⟩;have p:Hid (f.size=G*2):=Tn SG;rw[d]at g;have t:=Tn r;rw[VY]at g;go_enter func209,ntmps209;go_wp2_with (at_builtin;refine Lib.wpList_append_run _ rfl _ _ _ _ rfl _ _ rfl rfl _ _ (g _) ?_)
 all_goals(go_ret;exact⟨_,rfl,World.ownsRow_made w.drew f G (UY _) t p,af (ap w) _⟩)
structure MP(w:UN)(p:UV×Nat×List UV):Prop where
 ex:∃a c,p.1=Tm a p.2.1 c/\(a=U8->p.2.1=0)/\∀ad,a=Ts ad->∀(j:Nat)(u:UV),p.2.2[j]?=Ts u->w.cell? (ad.add j)=Ts u
 len:p.2.2.length=p.2.1*2
 one:∀u∈p.2.2,u.oneCell'=true
def ke(l:List (UV×Nat×List UV)):Nat:=(l.map (·.2.1)).sum
def zP(l:List (UV×Nat×List UV)):List UV:=l.flatMap (·.2.2)
def uX{l:List (UV×Nat×List UV)}{p:UV×Nat×List UV}(h:l[k]?=Ts p):ke (l.take (k+1))=ke (l.take k)+p.2.1:=by unfold ke;rw[aW h];simp
def FW{l:List (UV×Nat×List UV)}{p:UV×Nat×List UV}(h:l[k]?=Ts p):zP (l.take (k+1))=zP (l.take k)++p.2.2:=by unfold zP;rw[aW h];simp
def CT(l:List (UV×Nat×List UV))(k):ke (l.take k)<=ke l:=by
 conv=>rhs;rw[<-Xv k l]
 unfold ke;exact Zcl
def zV(ps:List (UV×Nat×List UV))(b c:Nat)(w)(Z:∀p∈ps,MP w p)(hb:∀(j:Nat)(p:UV×Nat×List UV),ps[j]?=Ts p->w.cell? ⟨b,j,U8⟩=Ts p.1)(hl:ps.length<=1000000)(z:ke ps<=100000000):
  VB UB 153 #[Tm (Ts ⟨b,0,U8⟩) ps.length c] w (fun e w'=>∃v,e=UO v/\w'.ownsRow w.heap.size 175 2 v (ke ps) (zP ps)/\aq w w'):=by
 obtain⟨i0,hi,E,C,D⟩:=WN vu;refine P9 hi E C D Z hb fun HI HZ0 HZ1 HZ2 Y HB=>P1 ps.length fun L hL=>have HL:=Tn hL;?_;rw[hL]at hl⊢;clear Z hb hL hi E C D;go_enter func153,ntmps153;go_wp2;go_loopw [11,3] (fun i n wr=>∃k:Nat,k<=L/\i=Ti Tl k/\n=Ti Tl (ke (ps.take k):Nat)/\wr=w) (fun i _ _=>L-(VS i).toNat)
 case atStart=>exact⟨0,VF _,rfl,rfl,rfl⟩
 obtain⟨k,o,rfl,rfl,hw⟩:=hrel;have hw2:=hw.symm;subst hw2;clear hw;by_cases R:k<L
 .obtain⟨p,x⟩:=ay HL R;obtain⟨a,pc,W,_,_⟩:=(Y p (Uv x)).ex;have J:=HB.out k p x;rw[W]at J;have d:=uX x;have I:=CT ps (k+1);refine P1 p.2.1 fun m K=>?_;rw[K]at J d;refine P1 (ke (ps.take k)) fun S l=>?_;rw[l]at d;have N:=Tn d;have hsm:S+m<=100000000:=Ph;rw[l];clear x W K l d I;go_wp2;go_roundw
  case rel=>exact⟨k+1,Ph,Pt,ZY,Zbe⟩
  case measure=>simp[VS];omega
 obtain rfl:L=k:=by omega
 have ht:ps.take L=ps:=VD QT;rw[ht];refine P1 (ke ps) fun S l=>have HS:=Tn l;?_;rw[l]at z⊢;clear l ht;go_wp2_with fail;refine(GU S _ Ph).mono ?_;rintro e t⟨v1,rfl,r,q⟩;refine P4 r q fun HO1 s=>?_;clear r q;go_wp2;go_loopw [27,6] (fun i v wr=>∃k:Nat,k<=L/\i=Ti Tl k/\wr.ownsRow w.heap.size 175 2 v (ke (ps.take k)) (zP (ps.take k))/\aq w wr) (fun i _ _=>L-(VS i).toNat)
 case atStart=>exact⟨0,VF _,rfl,HO1,s⟩
 obtain⟨k,o,rfl,r,g⟩:=hrel;refine P4 r g fun P ys=>?_;clear r g;by_cases R:k<L
 .obtain⟨p,x⟩:=ay HL R;have G:=Y.out p (Uv x);obtain⟨a,pc,W,M,O⟩:=G.ex;have J:=ae (HB k p x) ys;rw[W]at J;have d:=uX x;have B:=FW x;have I:=CT ps (k+1);have f:=G.len;have y:=G.one;refine P1 p.2.1 fun m K=>P1 p.2.2 fun cs H=>?_;rw[K]at J d M f;rw[H]at B f y O;refine P1 (ke (ps.take k)) fun S2 T=>P1 (zP (ps.take k)) fun A2 U=>?_;rw[T]at d P;rw[U]at B P;refine PC d B M f y fun N HAL HN0 V Q=>have HCS:Hid (∀ad,a=Ts ad->∀(j:Nat)(u:UV),cs[j]?=Ts u->wr.cell? (ad.add j)=Ts u):=Tn (fun ad had j u X=>yQ (O ad had j u X) ys);?_;have hsm:S2+m<=100000000:=by have:=HS.out;omega
  have hsz:=ys.out.size;have hi:=HI.out;have E:=HZ0.out;have C:=HZ1.out;have D:=HZ2.out;clear x W K T U d B I G M O H f y
  go_wp2_with (
         at_builtin
         refine aX rfl _ _ 83 rfl w.heap.size 175 i0 (UT #[zz,Ti Tl 0]) 2 32 underlying83 hi E C D rfl Pi _ _ _ rfl P.out a m pc cs rfl V.out HCS HN0 Q Pr Ph Ph ?_
         intro v2 w2 r A
         refine P4 r (aq.grown ys A (fun k o=>(P.lt k o).1)) fun HO2 F=>?_
         clear r A J)
  go_roundw
  case rel=>exact⟨k+1,Ph,Pt,Zdt,F⟩
  case measure=>simp[VS];omega
 exact To
section
attribute [local go_sem] ZA fP cP dR
def ne{s:au}(h:aY w a s)(P:Fr S w c)(l:∀p,a=Ts p->¬S p.block):aY c a s:=fun i x m=>by
 obtain⟨b,o,rfl,J⟩:=h i x m;exact⟨b,o,rfl,(P.cell (p:=⟨b,o+i,U8⟩) (aR J) (l ⟨b,o,U8⟩ rfl)).trans J⟩
def aM{b}{o:Obj}(h:w.heap[b]?=Ts o)(P:Fr S w c)(l:¬S b):c.heap[b]?=Ts o:=(P.block b (UE.1 h).1 l).trans h
def dt{B:Nat}{y:UV}(c:w.heap[B]?=Ts (Tq #[x,y] t (0,0)))(u v:UV):
  ((w.setCell ⟨B,0,U8⟩ u).setCell ⟨B,1,U8⟩ v).heap[B]?=Ts (Tq #[u,v] t (0,0))/\Fr (fun i=>i=B) w ((w.setCell ⟨B,0,U8⟩ u).setCell ⟨B,1,U8⟩ v):=by
 have L:(w.setCell ⟨B,0,U8⟩ u).heap[B]?=Ts (Tq #[u,y] t (0,0)):=(VE w B 0 _ _ _ c).trans Pm;exact⟨(VE _ B 1 _ _ _ L).trans Pm,(Uz (S:=fun b=>b=B) w ⟨B,0,U8⟩ u rfl).trans (Uz (S:=fun b=>b=B) (w.setCell ⟨B,0,U8⟩ u) ⟨B,1,U8⟩ v rfl)⟩
def mw{S:UN->Prop}(h:Kk m S S2 L w)(hi:m≠i):Kk m S S2 (fun j=>L j\/j=i) w:=h.elim (fun h=> .inl ⟨fun e=>e.elim h.1 hi,h.2⟩) (fun h=> .inr ⟨.inl h.1,h.2⟩)
def sy{S:UN->Prop}(h:Kk m S S2 L w):S w\/S2 w:=h.elim (fun h=> .inl h.2) (fun h=> .inr h.2)
def sW{S:UN->Prop}(h:Kk m S S2 L w)(b:¬L m):S w:=h.elim (fun h=>h.2) (fun h=>absurd h.1 b)
def As{S:UN->Prop}(h:S2 w):Kk m S S2 (fun j=>L j\/j=m) w:= .inr ⟨.inr rfl,h⟩
def AK{S:UN->Prop}(h:Kk m S S2 L w)(b:L m):S2 w:=h.elim (fun h=>absurd b h.1) (fun h=>h.2)
def BW{s:au}(h:aY w a s)(o:k<=s.length)(b:s.length<=VL):aJ w (Tm a k k) (s.take k):=
 ⟨a,k,by rw[VZ,Ys o],QD,Ph,fun i x m=>h i x (by
  rw[XM]at m;split at m
  .exact m
  cases m)⟩
def Kt{b:Nat}{s:au}(h:aY w (Ts ⟨b,0,U8⟩) s)(o:i+k<=s.length)(c:s.length<=VL):aJ w (Tm (Ts ⟨b,i,U8⟩) k k) ((s.drop i).take k):=by
 refine⟨Ts ⟨b,i,U8⟩,k,RP,RI,Ph,fun j x m=>?_⟩;rw[XM]at m;split at m
 .rw[YE]at m;obtain⟨d,o',hb,J⟩:=h (i+j) x m;cases hb;rw[VY]at J;exact⟨b,i,rfl,J⟩
 cases m
def OE(a w):aJ w (Tm a 0 0) []:=⟨a,0,rfl,UY _,VF _,fun i x m=>Zb1⟩
def BG(s u v w)(h:gn w u v s)(hl:s.safe.length+s.opn.length<=100000000):
  VB UB 48 #[UT #[u,v]] w (fun e o=>∃u' v',e=UO (UW #[UT #[u',v'],Ti Tl (((bk s).length-eE (aO (bk s)):Nat))])/\gn o u' v' (iR s)/\aq w o):=by
 obtain⟨a,c,b,d,rfl,rfl⟩:=h.form;refine P4 h hl fun HS HLL=>P1 s.safe.length fun N hN=>P1 s.opn.length fun M hM=>P4 hN hM fun HN HM=>?_;rw[hN,hM]at HS hl⊢;refine P1 w.heap.size fun D hD=>have HDD:=Tn hD;P1 ((w.alloc (Tq #[Tm a N c,Tm b M d] 42)).alloc (Tq #[zz,zz] 42)) fun f hW0=>have B:=Tn (show aq w f by rw[<-hW0];exact af (af P0 _) _);have HP:Hid (f.heap[D]?=Ts (Tq #[Tm a N c,Tm b M d] 42 (0,0))):=Tn (by rw[<-hW0,<-hD];exact(Below.heap_alloc _ _ _ Pm).trans (UZ _ _));have Z:Hid (f.heap[D+1]?=Ts (Tq #[zz,zz] 42 (0,0))):=Tn (by rw[<-hW0,<-hD];have:=UZ (w.alloc (Tq #[Tm a N c,Tm b M d] 42)) (Tq #[zz,zz] 42);rwa[Ud]at this);PM HP fun c0 c1=>?_;clear hN hM h;refine(Vn (n:=0)).1 ?_;refine YV func48 rfl trivial ?_ rfl;simp only[ntmps48,WG,Up,VJ,VO,YI,WX,WY,XF,Wi,Vd,Vu];gi_wp2_with fail
 try rw[hW0]
 try rw[hD]
 clear hW0;refine(Vn.2 (xp s _ _ f (HS.ext B) HLL)).mono ?_;rintro e t⟨vb,rfl,ab,q⟩;obtain⟨ba,bc,hvb,hb1,hb2,hb3⟩:=Yz rfl ab;subst hvb
 have HFM:Hid ((ba=U8/\(bk s).length=0)\/∃F,ba=Ts ⟨F,0,U8⟩):=Tn (by
  rcases ab.2 with⟨am,e2⟩|⟨F,cap,cur,am,_⟩
  .injection am with h1 h2 h3;exact .inl ⟨h1,e2⟩
  injection am with h1 h2 h3;exact .inr ⟨F,h1⟩)
 have hsz0:D+1<f.heap.size:=(UE.1 Z).1;have R:Hid (∀p,ba=Ts p->D+1<p.block/\p.block<t.heap.size):=Tn (fun p(Y:ba=Ts p)=>by have:=ab.lt p.block (by rw[Y];rfl);omega);refine P5 hb3 (aa B q) ((q.block D (UE.1 HP).1).trans HP) ((q.block (D+1) (UE.1 Z).1).trans Z) fun HB HE1 HP1 HR1=>P1 ((bk s).length) fun K H=>have U:=Tn H;have hKl:K<=100000000:=SD;?_;rw[H]at hb1⊢;clear ab q hb3 H c0 c1;gi_wp2_with (gi_at_call 116;refine(Vn.2 (xy _ _ _ _)).mono ?_;rintro e o⟨rfl,rfl⟩)
 refine P1 t.heap.size fun G hG=>P1 ((t.alloc (Tq #[Ti Tl 0] 3)).alloc (Tq #[Tm ba K bc] 37)) fun O hW3=>?_;have hE3:aq t O:=by rw[<-hW3];exact af (af P0 _) _
 have b5:VX O G 3 (Ti Tl 0):=by rw[<-hW3,<-hG];exact(Wt _ _ _).alloc _
 have bb:VX O (G+1) 37 (Tm ba K bc):=by rw[<-hW3,<-hG];have:=Wt (t.alloc (Tq #[Ti Tl 0] 3)) 37 (Tm ba K bc);rwa[Ud]at this
 have hz:O.heap.size=G+2:=by rw[<-hW3,<-hG];simp
 have hDG:D+1<G:=by rw[<-hG];exact(UE.1 HR1).1
 refine P5 ((hE3.block (D+1) (UE.1 HR1).1).trans HR1) ((hE3.block D (UE.1 HP1).1).trans HP1) (HB.ext hE3) (aa HE1 hE3) fun HR3 HP3 HB3 Id=>?_;rw[hG]at R;rw[hW3,hG];refine P3 hDG hz hG fun HDG HZ HG=>?_;clear hW3 hG hE3;refine sq rfl (enters_of func181 Pg rfl) (tw (bk s) (G+1) ba bc (by rw[U.out];exact hb1) hb2 (by rw[U.out];exact hKl))
  (fun o1 o2=>⟨by rw[U.out];exact(bb.alloc _).alloc _,(HB3.ext (af P0 _)).ext (af P0 _)⟩) (fun b hb=>hb.elim) (fun b hb=>by rcases hb with rfl|⟨p,Y,rfl⟩;(·omega);(·have:=R.out p Y;omega)) (fun x=>rfl)
  (fun b=>b=G) (fun b hb h=>by rcases h with h|⟨p,Y,h⟩;(·omega);(·have:=R.out p Y;omega)) (fun b hb=>Ph)
  (fun k W=>VX W G 3 (Ti Tl (eE ((aO (bk s)).take k):Nat))/\W.heap[D]?=Ts (Tq #[Tm a N c,Tm b M d] 42 (0,0))/\W.heap[D+1]?=Ts (Tq #[zz,zz] 42 (0,0))/\aY W ba (bk s)/\aq w W) (fun c k W=>False)
  ?stI ?stX ⟨by rw[Wk];exact b5,HP3,HR3,HB3,Id⟩ ?round ?done ?stop
 case stI=>
  rintro k A C⟨h1,h2,h3,h4,h5⟩cf;have hz:=HZ.out;refine⟨cf.boxed h1 QK,aM h2 cf QK,aM h3 cf QK,ne h4 cf (fun p Y=>by have:=R.out p Y;rintro(h|h|h)<;>first|exact h|omega),?_⟩;exact h5.trans (cf.below h5.size RY)
 case stX=>exact fun c k A C h _=>h.elim
 case round=>
  rintro l k x W m rfl hW hi;refine P4 (yJ m) hi fun HX HI=>?_;obtain⟨X,E⟩:=x;unfold Ny;clear m hi;gi_wp2_with fail
  refine⟨Z5 _ _,HI,?_⟩;rintro Wb⟨i1,i2,i3,i4,i5⟩- -;refine PC i1 i2 i3 i4 i5 fun I1 I2 I3 I4 I5=>have c5:=i1.cell;have f5:=i1.frozen;?_;clear i1 i2 i3 i4 i5 HI;gi_wp2_with fail
  have hst:Fr (fun b=>b=G) Wb (Wb.setCell ⟨G,0,U8⟩ (Ti Tl (E:Int))):=Uz _ _ _ rfl;refine⟨hst,by rw[HX.out];exact I1.out.set _,aM I2 hst Ph,aM I3 hst Ph,ne I4 hst (fun p Y h=>by have:=R.out p Y;omega),I5.trans (hst.below I5.size (by rintro k rfl;have:=HDD.out;omega))⟩
 case done=>
  rintro V⟨h1,h2,h3,h4,h5⟩H;rw[VD (UY _)]at h1;have hgl:=uF (bk s);refine P1 (eE (aO (bk s))) fun g hg=>have HGG:=Tn hg;?_;rw[hg]at h1 hgl;rw[U.out]at hgl;have c5:=h1.cell;refine PM h2 fun c0 c1=>P5 h3 h4 h5 H fun HRV HBV HEV HKV=>have HNK:Hid (N+M=K):=Tn (by rw[<-U.out];unfold bk;rw[Uo,HN.out,HM.out]);?_;clear h1 h2 h3 h4 h5 H hg hz b5 bb hDG;have hDG:D+1<G:=HDG.out;rcases HFM.out with⟨rfl,hK0⟩|⟨F,rfl⟩
  .obtain rfl:K=0:=by rw[<-U.out];exact hK0
   obtain rfl:g=0:=Ph;obtain rfl:N=0:=by have:=HNK.out;omega
   clear hK0;gi_wp2_with fail
   have T:Hid (∀o:UN,aq V o\/(o.heap[D+1]?=Ts (Tq #[zz,zz] 42 (0,0))/\Fr (fun i=>i=D+1) V o)->o.cell? ⟨G,0,U8⟩=Ts (Ti Tl (0))):=Tn (fun o h=>h.elim (fun h=>ae c5 h) (fun h=>(h.2.cell (p:=⟨G,0,U8⟩) (aR c5) Zba).trans c5));clear c5;refine ek (r:=U8) Pg Pg (Kk 14 (fun o=>aq V o) (fun o=>o.heap[D+1]?=Ts (Tq #[zz,zz] 42 (0,0))/\Fr (fun i=>i=D+1) V o)) (.inl ⟨fun h=>h,ap _⟩) ?_;iterate 14 (refine bd (v:=?_) rfl (fun L o y hL hw J=>?_) ?_;rotate_left;(focus(have c5:=T.out o (sy y);unfold ak;go_simp;refine aD (mw y ?_);decide));(try simp only[Ua,P7]))
   refine bd (v:=?_) rfl (fun L o y hL hw J=>?_) ?_;rotate_left;(focus(have z:=aM HRV (Uh (S:=fun _=>False) (sW y hL)) (fun h=>h);have hE:=Tn (Uh (S:=fun i=>i=D+1) (sW y hL));refine PM z fun e0 am=>?_;refine PO z fun fz0 fz1=>?_;have j:=Tn (dt z (zz) (zz));clear z y;unfold ak;go_simp;exact aD (As (S2:=(fun o=>o.heap[D+1]?=Ts (Tq #[zz,zz] 42 (0,0))/\Fr (fun i=>i=D+1) V o)) (Xy j.1 (hE.trans j.2)))));(try simp only[Ua])
   refine bd (v:=?_) rfl (fun L o y hL hw J=>?_) ?_;rotate_left;(focus(have c5:=T.out o (sy y);unfold ak;go_simp;refine aD (mw y ?_);decide));(try simp only[Ua,P7])
   refine iF fun L o I y=>?_;obtain⟨z,P⟩:=AK y (I 14 Pi);refine P4 z P fun HRF HF=>?_;clear z P y I;gi_wp2_with fail
   have hZ:Fr (fun i=>i=D+1\/i=O.heap.size) V (o.putObj O.heap.size (.deferred U8)):=(HF.mono fun _ _ e=> .inl e).trans (ZM o _ _ (.inr rfl));have hBZ:=ne HBV hZ (fun p Y=>Qt);have Q:(o.putObj O.heap.size (.deferred U8)).heap[D+1]?=Ts (Tq #[zz,zz] 42 (0,0)):=(Vk RW).trans HRF;refine PM Q fun q0 q1=>dB (D:=O.heap.size) (aM HKV HF RW) (v:=UW #[UT #[zz,zz],Ti Tl 0]) (by simp[results,results48,go_sem,q0,q1];exact Yo _ Ph) ⟨_,_,by rw[U.out,HGG.out,show((0-0:Nat):Int)=0 from Ph],?_,HEV.trans (hZ.below HEV.size Qk)⟩;have e0:bk s=[]:=VA U;have am:iR s=⟨[],[]⟩:=by unfold iR;rw[e0];rfl
   rw[am];exact⟨Bk _,Bk _⟩
  by_cases hgN:g<=N
  .have hmn:min (g:Int) (N:Int)=(g:Int):=by omega
   have i1:g<=bc:=Ph;have i9:Tl.wrap ((K:Int)-(g:Int))=(K:Int)-(g:Int):=Yo _ Ph;gi_wp2_with fail
   have T:Hid (∀o:UN,aq V o\/(o.heap[D+1]?=Ts (Tq #[Tm (Ts ⟨F,0,U8⟩) g g,Tm (Ts ⟨F,0,U8⟩) 0 0] 42 (0,0))/\Fr (fun i=>i=D+1) V o)->o.cell? ⟨G,0,U8⟩=Ts (Ti Tl ((g:Int)))):=Tn (fun o h=>h.elim (fun h=>ae c5 h) (fun h=>(h.2.cell (p:=⟨G,0,U8⟩) (aR c5) Zba).trans c5));clear c5;refine ek (r:=U8) Pg Pg (Kk 14 (fun o=>aq V o) (fun o=>o.heap[D+1]?=Ts (Tq #[Tm (Ts ⟨F,0,U8⟩) g g,Tm (Ts ⟨F,0,U8⟩) 0 0] 42 (0,0))/\Fr (fun i=>i=D+1) V o)) (.inl ⟨fun h=>h,ap _⟩) ?_;iterate 14 (refine bd (v:=?_) rfl (fun L o y hL hw J=>?_) ?_;rotate_left;(focus(have c5:=T.out o (sy y);unfold ak;go_simp;refine aD (mw y ?_);decide));(try simp only[Ua,P7]))
   refine bd (v:=?_) rfl (fun L o y hL hw J=>?_) ?_;rotate_left;(focus(have z:=aM HRV (Uh (S:=fun _=>False) (sW y hL)) (fun h=>h);have hE:=Tn (Uh (S:=fun i=>i=D+1) (sW y hL));refine PM z fun e0 am=>?_;refine PO z fun fz0 fz1=>?_;have j:=Tn (dt z (Tm (Ts ⟨F,0,U8⟩) g g) (Tm (Ts ⟨F,0,U8⟩) 0 0));clear z y;unfold ak;go_simp;exact aD (As (S2:=(fun o=>o.heap[D+1]?=Ts (Tq #[Tm (Ts ⟨F,0,U8⟩) g g,Tm (Ts ⟨F,0,U8⟩) 0 0] 42 (0,0))/\Fr (fun i=>i=D+1) V o)) (Xy j.1 (hE.trans j.2)))));(try simp only[Ua])
   refine bd (v:=?_) rfl (fun L o y hL hw J=>?_) ?_;rotate_left;(focus(have c5:=T.out o (sy y);unfold ak;go_simp;refine aD (mw y ?_);decide));(try simp only[Ua,P7])
   refine iF fun L o I y=>?_;obtain⟨z,P⟩:=AK y (I 14 Pi);refine P4 z P fun HRF HF=>?_;clear z P y I;gi_wp2_with fail
   have hZ:Fr (fun i=>i=D+1\/i=O.heap.size) V (o.putObj O.heap.size (.deferred U8)):=(HF.mono fun _ _ e=> .inl e).trans (ZM o _ _ (.inr rfl));have hBZ:=ne HBV hZ (fun p Y=>Qt);have Q:(o.putObj O.heap.size (.deferred U8)).heap[D+1]?=Ts (Tq #[Tm (Ts ⟨F,0,U8⟩) g g,Tm (Ts ⟨F,0,U8⟩) 0 0] 42 (0,0)):=(Vk RW).trans HRF;refine PM Q fun q0 q1=>dB (D:=O.heap.size) (aM HKV HF RW) (v:=UW #[UT #[Tm (Ts ⟨F,0,U8⟩) g g,Tm (Ts ⟨F,0,U8⟩) 0 0],Ti Tl ((K:Int)-(g:Int))]) Sw ⟨_,_,RU,?_,HEV.trans (hZ.below HEV.size Qk)⟩;have am:iR s=⟨(bk s).take g,[]⟩:=by
    unfold iR;dsimp only;rw[HGG.out,HN.out,Ys hgN,List.drop_eq_nil_of_le QD]
   rw[am];exact⟨BW hBZ (by rw[U.out];exact hgl) ST,OE _ _⟩
  have hmn:min (g:Int) (N:Int)=(N:Int):=by omega
  have i1:g<=bc:=Ph;have i9:Tl.wrap ((K:Int)-(g:Int))=(K:Int)-(g:Int):=Yo _ Ph;have i2:N<=bc:=Ph;have i3:N<=g:=Ph;have i4:¬g=N:=Ph;gi_wp2_with fail
  have T:Hid (∀o:UN,aq V o\/(o.heap[D+1]?=Ts (Tq #[Tm (Ts ⟨F,0,U8⟩) N N,Tm (Ts ⟨F,N,U8⟩) (g-N) (g-N)] 42 (0,0))/\Fr (fun i=>i=D+1) V o)->o.cell? ⟨G,0,U8⟩=Ts (Ti Tl ((g:Int)))):=Tn (fun o h=>h.elim (fun h=>ae c5 h) (fun h=>(h.2.cell (p:=⟨G,0,U8⟩) (aR c5) Zba).trans c5));clear c5;refine ek (r:=U8) Pg Pg (Kk 14 (fun o=>aq V o) (fun o=>o.heap[D+1]?=Ts (Tq #[Tm (Ts ⟨F,0,U8⟩) N N,Tm (Ts ⟨F,N,U8⟩) (g-N) (g-N)] 42 (0,0))/\Fr (fun i=>i=D+1) V o)) (.inl ⟨fun h=>h,ap _⟩) ?_;iterate 14 (refine bd (v:=?_) rfl (fun L o y hL hw J=>?_) ?_;rotate_left;(focus(have c5:=T.out o (sy y);unfold ak;go_simp;refine aD (mw y ?_);decide));(try simp only[Ua,P7]))
  refine bd (v:=?_) rfl (fun L o y hL hw J=>?_) ?_;rotate_left;(focus(have z:=aM HRV (Uh (S:=fun _=>False) (sW y hL)) (fun h=>h);have hE:=Tn (Uh (S:=fun i=>i=D+1) (sW y hL));refine PM z fun e0 am=>?_;refine PO z fun fz0 fz1=>?_;have j:=Tn (dt z (Tm (Ts ⟨F,0,U8⟩) N N) (Tm (Ts ⟨F,N,U8⟩) (g-N) (g-N)));clear z y;unfold ak;go_simp;exact aD (As (S2:=(fun o=>o.heap[D+1]?=Ts (Tq #[Tm (Ts ⟨F,0,U8⟩) N N,Tm (Ts ⟨F,N,U8⟩) (g-N) (g-N)] 42 (0,0))/\Fr (fun i=>i=D+1) V o)) (Xy j.1 (hE.trans j.2)))));(try simp only[Ua])
  refine bd (v:=?_) rfl (fun L o y hL hw J=>?_) ?_;rotate_left;(focus(have c5:=T.out o (sy y);unfold ak;go_simp;refine aD (mw y ?_);decide));(try simp only[Ua,P7])
  refine iF fun L o I y=>?_;obtain⟨z,P⟩:=AK y (I 14 Pi);refine P4 z P fun HRF HF=>?_;clear z P y I;gi_wp2_with fail
  have hZ:Fr (fun i=>i=D+1\/i=O.heap.size) V (o.putObj O.heap.size (.deferred U8)):=(HF.mono fun _ _ e=> .inl e).trans (ZM o _ _ (.inr rfl));have hBZ:=ne HBV hZ (fun p Y=>Qt);have Q:(o.putObj O.heap.size (.deferred U8)).heap[D+1]?=Ts (Tq #[Tm (Ts ⟨F,0,U8⟩) N N,Tm (Ts ⟨F,N,U8⟩) (g-N) (g-N)] 42 (0,0)):=(Vk RW).trans HRF;refine PM Q fun q0 q1=>dB (D:=O.heap.size) (aM HKV HF RW) (v:=UW #[UT #[Tm (Ts ⟨F,0,U8⟩) N N,Tm (Ts ⟨F,N,U8⟩) (g-N) (g-N)],Ti Tl ((K:Int)-(g:Int))]) Sw ⟨_,_,RU,?_,HEV.trans (hZ.below HEV.size Qk)⟩;have am:iR s=⟨(bk s).take N,((bk s).drop N).take (g-N)⟩:=by
   unfold iR;dsimp only;rw[HGG.out,HN.out,Nat.min_eq_right Ph,List.drop_take]
  rw[am];exact⟨BW hBZ (by rw[U.out];omega) ST,Kt hBZ (by rw[U.out];omega) ST⟩
 case stop=>exact fun c k W _ h _=>h.elim
end
section
attribute [local go_sem] ZA fP cP dR
def abA:(UB.info? 37).map (fun i=>(i.zero,i.size,i.bytes))=Ts (Ts (zz),1,24):=Pg
@[irreducible] def ag8(b:Array WR)(c:WR)(args:Array UV):Sem UV:=YU b c args
def fD(b c args):YU b c args=ag8 b c args:=by unfold ag8;rfl
attribute [local go_sem↓] fD
def ahK(s:lP)(w:UN)(e:Ending)(b:UN):Prop:=∃(r:UV)(acc:List (au×UV)),e=UO (UW #[r,Ti Tl (eE (aO (bk s)):Nat)])/\acc.map (·.1)=(aO (bk s)).map (·.1)/\kS w.heap.size r b acc/\aq w b
structure ag7(w:UN)(D base k:Nat)(s:au)(ba:Option VW)(W:UN)(r:UV)(acc:List (au×UV)):Prop where
 b1:VX W (D+1) 210 r
 b2:VX W (D+1+1) 3 (Ti Tl (eE ((aO s).take k):Nat))
 ac:acc.map (·.1)=((aO s).take k).map (·.1)
 own:kS base r W acc
 bt:aY W ba s
 ex:aq w W
def ag7.len{base}{s:au}{r}{acc:List (au×UV)}(h:ag7 w D base k s ba W r acc):acc.length=min k (aO s).length:=by
 have:=congrArg Xt h.ac;rwa[VR,VR,VZ]at this
def ag7.next{j base}{s X:au}{r d v5:UV}{acc:List (au×UV)}(h:ag7 w D base k s ba j r acc)(m:(aO s).take (k+1)=(aO s).take k++[(X,E)])(g:eE ((aO s).take (k+1))=E)(P:Fr (fun b=>base<=b) j c)(u:kS base d c (acc++[(X,v5)]))(y:w.heap.size<=D+1)(hb:D+1+1<base)(t:∀p,ba=Ts p->D+1+1<p.block/\p.block<base):
  Fr (fun b=>b=D+1\/b=D+1+1\/base<=b) j ((c.setCell ⟨D+1,0,U8⟩ d).setCell ⟨D+1+1,0,U8⟩ (Ti Tl E))/\∃r acc,ag7 w D base (k+1) s ba ((c.setCell ⟨D+1,0,U8⟩ d).setCell ⟨D+1+1,0,U8⟩ (Ti Tl E)) r acc:=by
 have q1:=P.boxed h.b1 Ph;have q2:=P.boxed h.b2 Ph;have q:Fr (fun b=>b=D+1\/b=D+1+1\/base<=b) j c:=P.mono fun _ _ e=> .inr (.inr e);have f:Fr (fun b=>b=D+1\/b=D+1+1) c ((c.setCell ⟨D+1,0,U8⟩ d).setCell ⟨D+1+1,0,U8⟩ (Ti Tl E)):=(Uz (S:=fun b=>b=D+1\/b=D+1+1) c ⟨D+1,0,U8⟩ d (.inl rfl)).trans (Uz (S:=fun b=>b=D+1\/b=D+1+1) _ ⟨D+1+1,0,U8⟩ _ (.inr rfl));have l:=q.trans (f.mono fun _ _ e=>e.elim .inl fun e=> .inr (.inl e));refine⟨l,d,acc++[(X,v5)],(Uz (S:=fun b=>b=D+1+1) _ ⟨D+1+1,0,U8⟩ _ rfl).boxed (ZF _ q1) Ph,?_,?_,u.fr f (fun k o _=>Ph),ne h.bt l (fun p x=>by have:=t p x;omega),h.ex.trans (l.below h.ex.size (by rintro k(h|h|h)<;>omega))⟩
 .rw[g];exact ZF _ ((Uz (S:=fun b=>b=D+1) c ⟨D+1,0,U8⟩ d rfl).boxed q2 Ph)
 rw[WK,h.ac,m,WK];rfl
def LG(s u v w)(h:gn w u v s)(hl:s.safe.length+s.opn.length<=100000000):
  VB UB 117 #[UT #[u,v]] w (ahK s w):=by
 obtain⟨a,c,b,d,rfl,rfl⟩:=h.form;refine P4 h hl fun HS HLL=>P1 s.safe.length fun N hN=>P1 s.opn.length fun M hM=>?_;rw[hN,hM]at HS hl⊢;refine P1 w.heap.size fun D hD=>have HDD:=Tn hD;P1 (((w.alloc (Tq #[Tm a N c,Tm b M d] 42)).alloc (Tq #[zz] 210)).alloc (Tq #[Ti Tl 0] 3)) fun f J=>have B:=Tn (show aq w f by rw[<-J];exact af (af (af P0 _) _) _);have B1:Hid (VX f (D+1) 210 (zz)):=Tn (by rw[<-J,<-hD];have:=(Wt (w.alloc (Tq #[Tm a N c,Tm b M d] 42)) 210 (zz)).alloc (Tq #[Ti Tl 0] 3);rwa[Ud]at this);have B2:Hid (VX f (D+1+1) 3 (Ti Tl 0)):=Tn (by rw[<-J,<-hD];have:=Wt ((w.alloc (Tq #[Tm a N c,Tm b M d] 42)).alloc (Tq #[zz] 210)) 3 (Ti Tl 0);rwa[Ud,Ud]at this);?_;have c0:f.cell? ⟨D,0,U8⟩=Ts (Tm a N c):=by rw[<-J,<-hD];simp[go_sem]
 have c1:f.cell? ⟨D,1,U8⟩=Ts (Tm b M d):=by rw[<-J,<-hD];simp[go_sem]
 clear hN hM;refine(Vn (n:=0)).1 ?_;refine YV func117 rfl trivial ?_ rfl;simp only[ntmps117,WG,Up,VJ,VO,YI,WX,WY,XF,Wi,Vd,Vu];gi_upto_region 1 with fail
 try rw[J]
 try rw[hD]
 clear J hD;gi_wp2_with fail
 refine(Vn.2 (xp s _ _ f (HS.ext B) HLL)).mono ?_;rintro e t⟨vb,rfl,z,R⟩;obtain⟨ba,bc,hvb,hb1,j,hb3⟩:=Yz rfl z;subst hvb;have hsz0:D+1+1<f.heap.size:=B2.out.lt;have U:Hid (∀p,ba=Ts p->D+1+1<p.block/\p.block<t.heap.size):=Tn (fun p(hp:ba=Ts p)=>by have:=z.lt p.block (by rw[hp];rfl);omega);refine P3 hb3 (aC R B1) (aC R B2) fun HB B1' B2'=>have hsz1:=R.size;have HE1:=Tn (aa B R);P1 ((bk s).length) fun K H=>have HK:=Tn H;have hKl:K<=100000000:=SD;?_;rw[H]at hb1⊢;clear H c0 c1;gi_wp2_with (gi_at_call 116;refine(Vn.2 (xy _ _ _ _)).mono ?_;rintro e w'⟨rfl,rfl⟩)
 refine P1 t.heap.size fun G hG=>P1 (t.alloc (Tq #[Tm ba K bc] 37)) fun O T=>have L:aq t O:=QA;?_;have bb:VX O G 37 (Tm ba K bc):=by rw[<-T,<-hG];exact Wt _ _ _
 have hz:O.heap.size=G+1:=by rw[<-T,<-hG];simp
 have hDG:D+1+1<G:=Ph;refine P5 (HB.ext L) (aa HE1 L) (aC L B1') (aC L B2') fun HB3 Id B13 B23=>?_;rw[hG]at U;rw[T,hG];refine P4 hDG hz fun HDG HZ=>?_;clear T hG;refine xr rfl (enters_of func181 Pg rfl) (tw (bk s) G ba bc (by rw[HK.out];exact hb1) j (by rw[HK.out];exact hKl))
  (fun o1 o2=>⟨by rw[HK.out];exact(bb.alloc _).alloc _,(HB3.ext (af P0 _)).ext (af P0 _)⟩) (fun b hb=>hb.elim) (fun b hb=>by rcases hb with rfl|⟨p,hp,rfl⟩;(·omega);(·have:=U.out p hp;omega)) (fun x=>rfl)
  (fun b=>b=D+1\/b=D+1+1\/G+3<=b) (fun b hb h=>by rcases h with h|⟨p,hp,h⟩;(·omega);(·have:=U.out p hp;omega)) (fun b hb=>Ph)
  (fun k W=>∃r acc,ag7 w D (G+3) k (bk s) ba W r acc) (fun c k W=>False)
  ?stI ?stX ⟨zz,[],B13,by rw[Wk];exact B23.out,by rw[Wk];rfl,kS.nil _ _,HB3,Id⟩ ?round ?done ?stop
 case stI=>
  rintro k A C⟨r,acc,h⟩cf;have hz:=HZ.out;refine⟨r,acc,cf.boxed h.b1 QK,cf.boxed h.b2 QK,h.ac,h.own.fr cf (fun k _ _=>QK),ne h.bt cf (fun p hp=>by have:=U.out p hp;rintro(h|h|h)<;>first|exact h|omega),?_⟩;exact h.ex.trans (cf.below h.ex.size RY)
 case stX=>exact fun c k A C h _=>h.elim
 case round=>
  rintro l k x W m rfl hW hi;refine P1 (G+3) fun base hbG=>?_;rw[hz]at hW;rw[hbG]at hi⊢;obtain⟨X,E⟩:=x;refine P9 (yJ m) (aW m) (Uv m) (jN (bk s)) hi hW fun HX HSN HMEM HCNT HI HWW=>have hEN:(Ny ba bc (X,E))=#[Tm (ba.map fun q=>⟨q.block,q.off+(E-16-X.length),U8⟩) X.length (bc-(E-16-X.length)),Ti Tl E]:=rfl;?_;obtain⟨a7,ha7⟩:∃a7,(ba.map fun q=>(⟨q.block,q.off+(E-16-X.length),U8⟩:VW))=a7:=⟨_,rfl⟩;refine P1 (bc-(E-16-X.length)) fun c7 hc7=>?_;rw[ha7,hc7]at hEN
  have HEB:Hid (∀V:UN,aY V ba (bk s)->aJ V (Tm a7 X.length c7) X):=Tn (fun V hV=>by
   have:=Oz (C:=bc) (by rw[HK.out];exact hb1) j hV HMEM;dsimp only at this;rw[ha7,hc7]at this
   exact this)
  have HXL:Hid (X.length<=4096):=Tn (sH HMEM).2.2.2;rw[hEN];clear ha7 hc7 hEN;refine P1 X.length fun n7 hn7=>?_;rw[hn7]at HEB HXL⊢;have HN7:=Tn hn7;clear hn7;gi_wp2_with fail
  refine⟨Z5 _ _,HI,?_⟩;rintro Wb-⟨r,acc,hi⟩-hsz;have hWb:base<=Wb.heap.size:=by have:=HWW.out;omega
  refine P3 hi (HEB Wb hi.bt) hi.len fun Z HXV HAL=>have c1:=hi.b1.cell;have f1:=hi.b1.frozen;have c2:=hi.b2.cell;have f2:=hi.b2.frozen;?_;obtain⟨i0,Q,hz0,hz1,hz2⟩:=WN abA;refine P5 Q hz0 hz1 hz2 fun HJ0 HJ1 HJ2 HJ3=>?_;gi_wp2_with fail
  first|(gi_region_with (
   gi_at_call 89
   refine(CallsIn.inRound _ (Vn.2 (qu X _ _ (HXV.ext (ap _)) (by rw[HN7.out];have:=HXL.out;omega)))).mono ?_
   rintro e w5⟨v5,rfl,F,hE5⟩
   obtain⟨a5,c5,hv5,_⟩:=Yz rfl F
   subst hv5
   refine P4 (aa (ap _) hE5) (F.mono hWb) fun Y H5=>?_
   have HA5:=Tn (Z.own.ext Y)
   obtain⟨r6,W6,hrun,I,y,_,_⟩:=run_append_own_at (P:=UB) (w5.alloc (Tq #[Tm a5 X.length c5] 37)) base 210 210 37 i0 (zz) 1 24 underlying210 HJ0 HJ1 HJ2 HJ3 rfl Pi r acc.length (acc.map (·.2)) (HA5.own.alloc _) ⟨w5.heap.size,0,U8⟩ 1 1 [Tm a5 X.length c5] rfl (d9 _ _ _) Pu (by unfold VL;have:=HAL.out;have:=HCNT.out;have:=HK.out;omega) (by have:=HAL.out;have:=HCNT.out;have:=HK.out;omega) (by rw[Ud];have:=Y.out.size;omega)
   obtain⟨g6,cap6,rfl⟩:=yU I
   rw[fD]at hrun
   refine P4 (HA5.snoc H5 I y) ((Uh (af Y _)).trans ((Fr.grown y).mono fun b _ e=>bE (Z.own.own) b e)) fun HA6 HF6=>?_
   have q1:=HF6.out.boxed Z.b1 Ph;have q2:=HF6.out.boxed Z.b2 Ph
   have z1:=ae c1 Y;have z1':=ae c1 (af Y (Tq #[Tm a5 X.length c5] 37))
   have d1:=q1.cell;have g1:=q1.frozen;have d2:=q2.cell;have g2:=q2.frozen
   clear q1 q2 F hE5 I y))|fail
  all_goals
   gi_wp2_with fail
   exact Z.out.next HSN HX HF6 HA6 (by have:=HDD.out;omega) Ph (fun p hp=>by have:=U.out p hp;omega)
 case done=>
  rintro V⟨r,acc,hr⟩hKV;obtain⟨ra,rn,rc,rfl⟩:∃ra rn rc,r=Tm ra rn rc:=by
   rcases hr.own.own.2 with⟨am,_⟩|⟨g0,cap,cur,am,_⟩
   .exact⟨_,_,_,am⟩
   exact⟨_,_,_,am⟩
  have j:=hr.b2;have hac:=hr.ac;rw[VD (UY _)]at j hac;refine P1 (eE (aO (bk s))) fun g S=>?_;rw[S]at j;refine PC S hac hr hKV j fun HGG HAC HRR HKV HB2=>have c1:=hr.b1.cell;have f1:=hr.b1.frozen;have c2:=j.cell;have f2:=j.frozen;have hs1:V.drew.setCell ⟨D+1,0,U8⟩ (Tm ra rn rc)=V.drew:=qo (w:=V.drew) hr.b1;have hs2:V.drew.setCell ⟨D+1+1,0,U8⟩ (Ti Tl (g:Int))=V.drew:=qo (w:=V.drew) j;?_;clear S hz;gi_wp2_with fail
  first|(gi_region)|fail
  all_goals
   gi_wp2_with fail
   have hzz:=HZ.out
   have hdd:=HDD.out
   have hZ:Fr (fun i=>i=O.heap.size) V (V.drew.putObj O.heap.size (.deferred U8)):=(Fr.drew _ V).trans (ZM _ _ _ rfl)
   have q0:=(hZ.boxed HRR.b1 Ph).cell;have q1:=(hZ.boxed HB2 Ph).cell
   have z:=(HRR.own.fr hZ (fun k o _ e=>Ph)).mono (base':=w.heap.size) Ph
   have hext:=HRR.out.ex.trans (hZ.below HRR.ex.size (by rintro k rfl;omega))
   refine dB (D:=O.heap.size) HKV (v:=UW #[Tm ra rn rc,Ti Tl (g:Int)]) (by simp[results,results117,go_sem,q0,q1]) ⟨_,acc,by rw[HGG.out],HAC,z,hext⟩
 case stop=>exact fun c k W _ h _=>h.elim
end
section
attribute [local irreducible] ak
def Es(X:UN)(b v2:UV)(s1 c:au)(T:WR):∀(j:Nat)(p:UV×au),[(b,s1),(v2,c)][j]?=Ts p->(X.alloc (Tq #[b,v2] T)).cell? ⟨X.heap.size,j,U8⟩=Ts p.1:=fun j p Q=>by
 have h:=cQ X [b,v2] T j p.1 (by
  have:=congrArg (Xb Prod.fst) Q;rw[<-VU]at this
  exact this)
 rw[show((⟨X.heap.size,0,U8⟩:VW).add j)=⟨X.heap.size,j,U8⟩from Px]at h;exact h
def aj3(x:au):(cF x).length=x.length+20:=RT
def Hs(D N M L B:Nat)(a b p:Option VW)(c d r:Nat)(m o f:au)(F q:Nat):List (UV->UN->Prop):=
 [fun v _=>v=UK (Ts ⟨D,0,U8⟩),fun v _=>v=Tm a N c,fun v w=>∃a5 c5,v=Tm a5 N c5/\aJ w (Tm a5 N c5) m,fun v _=>v=UK (Ts ⟨D,1,U8⟩),fun v _=>v=Tm b M d,fun v _=>v=Tm p L r,
  fun v w=>∃a6 l,v=Tm a6 F l/\aJ w (Tm a6 F l) f,
  fun v w=>∃g a6 l,v=Tm (Ts ⟨g,0,U8⟩) 2 2/\aJ w (Tm a6 F l) f/\w.cell? ⟨g,0,U8⟩=Ts (Tm b M d)/\w.cell? ⟨g,1,U8⟩=Ts (Tm a6 F l),
  fun v w=>∃a7 j,v=Tm a7 q j/\aJ w (Tm a7 q j) (o++f),
  fun v w=>∃a5 c5 a7 j,v=UT #[Tm a5 N c5,Tm a7 q j]/\aJ w (Tm a5 N c5) m/\aJ w (Tm a7 q j) (o++f),
  fun v w=>∃g,v=UK (Ts ⟨g,0,U8⟩)/\B<=g/\w.heap[g]?=Ts (Tq #[zz,zz] 42 (0,0))]
def aa9{N M L B b s c d u}{t y f:au}{F}:∀p∈Hs D N M L B a b s c d u t y f F q,∀v w m,p v w->aq w m->p v m:=by
 intro p x;simp only[Hs,PD]at x;rcases x with rfl|rfl|rfl|rfl|rfl|rfl|rfl|rfl|rfl|rfl|rfl
 .exact fun _ _ _ h _=>h
 .exact fun _ _ _ h _=>h
 .rintro v w m⟨a5,c5,h1,l⟩j;exact⟨a5,c5,h1,l.ext j⟩
 .exact fun _ _ _ h _=>h
 .exact fun _ _ _ h _=>h
 .exact fun _ _ _ h _=>h
 .rintro v w m⟨a6,r,h1,l⟩j;exact⟨a6,r,h1,l.ext j⟩
 .rintro v w m⟨g,a6,r,h1,l,A,z⟩j;exact⟨g,a6,r,h1,l.ext j,ae A j,ae z j⟩
 .rintro v w m⟨a7,o,h1,l⟩j;exact⟨a7,o,h1,l.ext j⟩
 .rintro v w m⟨a5,c5,a7,o,h1,l,A⟩j;exact⟨a5,c5,a7,o,h1,l.ext j,A.ext j⟩
 rintro v w m⟨g,h1,l,A⟩j;exact⟨g,h1,l,aM A (Uh (S:=fun _=>False) j) (fun h=>h)⟩
def aeY(I:UN)(N q:Nat)(d f:au)(vs:List UV)(b:UN):Prop:=∃g a5 c5 a7 c,vs.getD 10 VM=UK (Ts ⟨g,0,U8⟩)/\b.heap[g]?=Ts (Tq #[Tm a5 N c5,Tm a7 q c] 42 (0,0))/\aJ b (Tm a5 N c5) d/\aJ b (Tm a7 q c) f/\aq I b
def O0{N c5 d a5 a7}{f j:au}(L:vs.getD 10 VM=UK (Ts ⟨g,0,U8⟩))(h1:b.heap[g]?=Ts (Tq #[Tm a5 N c5,Tm a7 q d] 42 (0,0)))(c:aJ b (Tm a5 N c5) f)(A:aJ b (Tm a7 q d) j)(l:aq I b):aeY I N q f j (vs.set 11 u) b:=
 ⟨g,a5,c5,a7,d,by rw[Uj,Vl Pi,<-Uj];exact L,h1,c,A,l⟩
def Cp(s)(x:au)(u v bv w)(h:gn w u v s)(m:aJ w bv x)(A:s.safe.length+s.opn.length<=100000000)(hxl:x.length<=1000000000):
  VB UB 99 #[UT #[u,v],bv] w (mP (fM s x) (fT s x) w):=by
 obtain⟨a,c,b,d,rfl,rfl⟩:=h.form;obtain⟨xa,xc,rfl,hx1,hx2,hx3⟩:=m;refine P4 h A fun HS HLL=>have HX:Hid (aJ w (Tm xa x.length xc) x):=Tn ⟨_,_,rfl,hx1,hx2,hx3⟩;P1 s.safe.length fun N hN=>P1 s.opn.length fun M hM=>P1 x.length fun L hL=>P3 hN hM hL fun HN HM HL=>?_;rw[hN,hM]at HS⊢;rw[hL]at HX hxl⊢;refine P1 w.heap.size fun D C=>have HDD:=Tn C;P1 ((w.alloc (Tq #[Tm a N c,Tm b M d] 42)).alloc (Tq #[zz,zz] 42)) fun f hW0=>have B:=Tn (show aq w f by rw[<-hW0];exact af (af P0 _) _);have HP:Hid (f.heap[D]?=Ts (Tq #[Tm a N c,Tm b M d] 42 (0,0))):=Tn (by rw[<-hW0,<-C];exact(Below.heap_alloc _ _ _ Pm).trans (UZ _ _));have Z:Hid (f.heap[D+1]?=Ts (Tq #[zz,zz] 42 (0,0))):=Tn (by rw[<-hW0,<-C];have:=UZ (w.alloc (Tq #[Tm a N c,Tm b M d] 42)) (Tq #[zz,zz] 42);rwa[Ud]at this);have hDD:w.heap.size<=D+1:=Ph;PM HP fun c0 c1=>have hgl:=uF (bk s);P1 ((bk s).length-eE (aO (bk s))) fun g hg=>have HG:=Tn hg;?_
 have HAE:Hid (fM s x=if gH s≠0 then 2 else if 4096<L then 1 else if 0<g then 200 else gH (fT s x)):=Tn (by
  unfold fM;rw[hL,<-hg];congr 1;congr 1;by_cases J:eE (aO (bk s))<(bk s).length
  .rw[if_pos J,if_pos Ph]
  rw[if_neg J,if_neg Ph];rfl)
 go_enter func99,ntmps99;go_upto_region 1 with fail;try rw[hW0]
 try rw[C]
 go_wp2_with fail;refine(BG s _ _ f (HS.ext B) HLL).mono ?_;rintro e t⟨u1,v1,rfl,hsf,hE1⟩;rw[HG.out];obtain⟨fa,fc,fb,fd,rfl,rfl⟩:=hsf.form;refine P3 (aa B hE1) (aM HP (Uh (S:=fun _=>False) hE1) (fun h=>h)) (aM Z (Uh (S:=fun _=>False) hE1) (fun h=>h)) fun HE1 HP1 HR1=>P1 (t.alloc (Tq #[Tm fa (Xt (iR s).safe) fc,Tm fb (Xt (iR s).opn) fd] 42)) fun V1 hV1=>have HEV:Hid (aq w V1):=Tn (by rw[<-hV1];exact af HE1 _);?_;have hW1V:aq t V1:=by rw[<-hV1];exact af P0 _
 refine P4 (aM HP1 (Uh (S:=fun _=>False) hW1V) (fun h=>h)) (aM HR1 (Uh (S:=fun _=>False) hW1V) (fun h=>h)) fun HP2 HR2=>PM HP2 fun c0 c1=>?_;go_upto_region 2 with fail;try rw[hV1]
 go_wp2_with fail;refine P2 (jZ s _ _ V1 (HS.ext HEV)) fun I hE2=>P3 (aa HEV hE2) (aM HP2 (Uh (S:=fun _=>False) hE2) (fun h=>h)) (aM HR2 (Uh (S:=fun _=>False) hE2) (fun h=>h)) fun HE2 HP3 ac=>PM HP3 fun c0 c1=>?_;have hE':gH s=2\/gH s=0/\N+M<=65536:=by
  rw[<-HN.out,<-HM.out];unfold gH;split<;>omega
 refine PM ac fun e0 am=>PO ac fun g0 g1=>have l:=Tn (bz ac hDD HE2 (zz) (zz));?_;rcases hE' with hw|⟨hw,hsm⟩
 .have R:Hid (fM s x=2):=Tn (by rw[HAE.out,hw];rfl);rw[hw];go_wp2_with fail;exact PM l.1 fun q0 q1=>VC (v:=UW #[UT #[zz,zz],Ti Tl 2]) QP rfl RX
 rw[hw]at HAE⊢;by_cases hbig:4096<L
 .have R:Hid (fM s x=1):=Tn (by rw[HAE.out,if_neg Pi,if_pos hbig]);have hb':(4096:Int)<(L:Int):=Ph;go_wp2_with fail;exact PM l.1 fun q0 q1=>VC (v:=UW #[UT #[zz,zz],Ti Tl 1]) QP rfl RX
 have hb':¬(4096:Int)<(L:Int):=by omega
 by_cases hlost:0<g
 .have R:Hid (fM s x=200):=Tn (by rw[HAE.out,if_neg Pi,if_neg hbig,if_pos hlost]);have hb2:(0:Int)<(g:Int):=Ph;go_wp2_with fail;exact PM l.1 fun q0 q1=>VC (v:=UW #[UT #[zz,zz],Ti Tl 200]) QP rfl RX
 have R:Hid (fM s x=gH (fT s x)):=Tn (by rw[HAE.out,if_neg Pi,if_neg hbig,if_neg hlost]);obtain rfl:g=0:=Ph;have HSA:=Tn (HS.ext HE2).safe;have HSB:=Tn (HS.ext HE2).opn;have HX2:=Tn (HX.ext HE2);have HL4:Hid (x.length<=4096):=Tn (by rw[HL.out];omega);have HFL:Hid ((cF x).length=L+20):=Tn (by rw[aj3,HL.out]);go_upto_region 8 with fail;refine P1 ((cF x).length) fun F P=>P1 ((s.opn++cF x).length) fun q hq=>P4 P hq fun HF HQ=>(WV (n:=0)).1 ?_;refine gp (r:=U8) 11 12 [Ts 29,Ts 30,Ts 31,Ts 32,Ts 33,Ts 34,Ts 35,Ts 36,Ts 37,Ts 38,Ts 8,U8] Pg Pg Pg Pg rfl rfl Pg (Hs D N M L I.heap.size a b xa c d xc s.safe s.opn (cF x) F q) aa9
  (aeY I N q s.safe (s.opn++cF x)) ?steps ?last ?fin
 case steps=>
  simp only[Xx,Wk];refine⟨?_,?_,?_,?_,?_,?_,?_,?_,?_,?_,?_,trivial⟩
  .intro vs O A z y;simp only[aK];have ys:=Tn (aa (ap I) z);exact Td
  .intro vs O A z y;have t9:=y 0 Pg;simp only[Hs,Xp]at t9;simp only[aK,Xp,Ua,P7];rw[t9];have ys:=Tn (aa (ap I) z);have z0:=ae c0 ys;exact Td
  .intro vs O A z y;have h_1:=y 1 Pg;simp only[Hs,PW]at h_1;simp only[aK,Ua,PV];rw[h_1];have ys:=Tn (aa (ap I) z);unfold ak;go_simp;go_at_call 89;refine(qu s.safe _ _ (HSA.ext ys) (by rw[HN.out];omega)).mono ?_;rintro e w5⟨v5,rfl,hown5,Y⟩;obtain⟨a5,c5,hv5,h5⟩:=Yz rfl hown5;rw[HN.out]at hv5;subst hv5;refine⟨_,rfl,?_,Y⟩;exact⟨a5,c5,rfl,Yz rfl hown5⟩
  .intro vs O A z y;simp only[aK,Ua,PV];have ys:=Tn (aa (ap I) z);exact Td
  .intro vs O A z y;have h_3:=y 3 Pg;simp only[Hs,PW]at h_3;simp only[aK,Ua,PV];rw[h_3];have ys:=Tn (aa (ap I) z);have z1:=ae c1 ys;exact Td
  .intro vs O A z y;simp only[aK,Ua,PV];have ys:=Tn (aa (ap I) z);exact Td
  .intro vs O A z y;have h_5:=y 5 Pg;simp only[Hs,PW]at h_5;simp only[aK,Ua,PV];rw[h_5];have ys:=Tn (aa (ap I) z);unfold ak;go_simp;go_at_call 172;refine(Fd x _ _ (HX2.ext ys) HL4).mono ?_;rintro e w6⟨v6,rfl,hown6,hE6⟩;obtain⟨a6,c6,hv6,h6⟩:=Yz rfl hown6;rw[HF.out]at hv6;subst hv6;refine⟨_,rfl,?_,hE6⟩;exact⟨a6,c6,rfl,Yz rfl hown6⟩
  .intro vs O A z y;have h_4:=y 4 Pg;simp only[Hs,PW]at h_4;have T:=y 6 Pg;simp only[Hs,PW]at T;refine UX T fun a6 T=>UX T fun c6 T=>have hv_6:=T.1;have h6:=T.2;?_;simp only[aK,Ua,PV];rw[h_4,hv_6];refine P4 (aa (ap I) z) h6 fun ys H6=>?_;unfold ak;go_simp;have hp:=Es O (Tm b M d) (Tm a6 F c6) [] [] 37;refine⟨?_,af P0 _⟩;exact⟨_,a6,c6,rfl,H6.ext (af P0 _),hp 0 _ rfl,hp 1 _ rfl⟩
  .intro vs O A z y;have H:=y 7 Pg;simp only[Hs,PW]at H;refine UX H fun g7 H=>UX H fun a6 H=>UX H fun c6 H=>have hv_7:=H.1;have h6:=H.2.1;have hc0:=H.2.2.1;have hc1:=H.2.2.2;?_;simp only[aK,Ua,PV];rw[hv_7];refine P5 (aa (ap I) z) h6 hc0 hc1 fun ys H6 HC0 HC1=>?_;unfold ak;go_simp;go_at_call 171
   refine(uw [(Tm b M d,s.opn),(Tm a6 F c6,cF x)] g7 2 O (fun p hp=>by
    rcases VN.1 hp with rfl|hp
    .exact HSB.out.ext ys
    .rw[VP]at hp;subst hp;exact H6.out) (fun j p Q=>by
    match j,Q with
    |0,Q=>cases Q;exact HC0.out
    |1,Q=>cases Q;exact HC1.out) Pm (by simp only[Vh,Yv,Ww,Uo,HM.out,HFL.out];omega)).mono ?_
   rintro e w7⟨v7,rfl,X,hE7⟩;simp only[Vh,Yv,Ww]at X;obtain⟨a7,c7,hv7,h7⟩:=Yz rfl X;rw[HQ.out]at hv7;subst hv7;refine⟨_,rfl,?_,hE7⟩;exact⟨a7,c7,rfl,Yz rfl X⟩
  .intro vs O A z y;have W:=y 2 Pg;simp only[Hs,PW]at W;refine UX W fun a5 W=>UX W fun c5 W=>have hv_2:=W.1;have h5:=W.2;have U:=y 8 Pg;?_;simp only[Hs,PW]at U;refine UX U fun a7 U=>UX U fun c7 U=>have hv_8:=U.1;have h7:=U.2;?_;simp only[aK,Ua,PV];rw[hv_2,hv_8];refine P3 (aa (ap I) z) h5 h7 fun ys H5 H7=>?_;unfold ak;go_simp;refine⟨?_,P0⟩;exact⟨a5,c5,a7,c7,rfl,H5,H7⟩
  intro vs O A z y;simp only[aK,Ua,PV];have ys:=Tn (aa (ap I) z);unfold ak;go_simp;refine⟨?_,af P0 _⟩;exact⟨_,rfl,ys.size,UZ _ _⟩
 case last=>
  intro vs O A z y;have G:=y 9 Pi;simp only[Hs,PW]at G;refine UX G fun a5 G=>UX G fun c5 G=>UX G fun a7 G=>UX G fun c7 G=>have hv_9:=G.1;have h5:=G.2.1;have h7:=G.2.2;have K:=y 10 Pi;?_;simp only[Hs,PW]at K;refine UX K fun g K=>have ab:=K.1;have hg:=K.2.1;have hr:=K.2.2;?_;simp only[aK,Ua,PV];rw[hv_9,ab];refine P5 ab h5 h7 (aa (ap I) z) fun HV10 H5 H7 ys=>PM hr fun e0 am=>PO hr fun fz0 fz1=>P3 (dt hr (Tm a5 N c5) (Tm a7 q c7)) (oV hr) hg fun l HOF HG=>?_;unfold ak;go_simp;exact O0 HV10 l.1 (H5.off l.2 HOF) (H7.off l.2 HOF) (ys.trans (l.2.below ys.size (fun k o=>by have:=HG.out;omega)))
 intro vs O A P;obtain⟨g,a5,c5,a7,c7,h10,hr,h5,h7,z⟩:=P;simp only[aK,Ua,PV];rw[h10];generalize vs.getD 0 VM=v0;generalize vs.getD 1 VM=v1;generalize vs.getD 2 VM=v2;generalize vs.getD 3 VM=v3;generalize vs.getD 4 VM=v4;generalize vs.getD 5 VM=v5;generalize vs.getD 6 VM=v6;generalize vs.getD 7 VM=v7;generalize vs.getD 8 VM=v8;generalize vs.getD 9 VM=v9;generalize vs.getD 11 VM=v11;have hSC:gn O (Tm a5 N c5) (Tm a7 q c7) (fT s x):=⟨h5,h7⟩;refine P5 hSC hr (aa HE2 z) (aM ac (Uh (S:=fun _=>False) z) (fun h=>h)) fun HSC HRG HE4 HR4=>PM hr fun k0 k1=>?_;go_wp2_with fail;refine P2 (jZ (fT s x) _ _ O HSC) fun W5 Y=>P5 (aa HE4 Y) (HSC.ext Y) (aM HR4 (Uh (S:=fun _=>False) Y) (fun h=>h)) (aM HRG (Uh (S:=fun _=>False) Y) (fun h=>h)) fun HE5 HS5 V HG5=>PM HG5 fun k0 k1=>PM V fun e0 am=>PO V fun g0 g1=>P1 (gH (fT s x)) fun E z=>?_;have hE2':E=2\/E=0:=by rw[<-z];unfold gH;split<;>simp
 have HEE:=Tn z;rw[z];rcases hE2' with rfl|rfl
 .have l:=Tn (bz V hDD HE5 (zz) (zz));go_wp2_with fail;exact PM l.1 fun q0 q1=>VC (v:=UW #[UT #[zz,zz],Ti Tl 2]) QP rfl (by rw[R.out,HEE.out];exact mP.no Pi l.2)
 have l:=Tn (bz V hDD HE5 (Tm a5 N c5) (Tm a7 q c7));have HFF:=Tn (dt V (Tm a5 N c5) (Tm a7 q c7)).2;have HSF:=Tn (HS5.off HFF (oV V));go_wp2_with fail;exact PM l.1 fun q0 q1=>VC (v:=UW #[UT #[Tm a5 N c5,Tm a7 q c7],Ti Tl 0]) QP rfl (by rw[R.out,HEE.out];exact mP.yes HSF l.2)
end
section
attribute [local go_sem↓] fD
def aaM(d:ByteArray)(ps:List (UV×au))(b c:Nat)(w)(hw:d.size<=100000)(A:∀p∈ps,aJ w p.1 p.2)(hb:∀(j:Nat)(p:UV×au),ps[j]?=Ts p->w.cell? ⟨b,j,U8⟩=Ts p.1)(hl:ps.length<=1000000)(z:(ps.flatMap (·.2)).length<=100000):
  VB UB 156 #[Value.string d,Tm (Ts ⟨b,0,U8⟩) ps.length c] w (fun e Y=>∃v,e=UO v/\aJ Y v (d.data.toList++ps.flatMap (·.2))/\aq w Y):=by
 have k0:=run_bytes_of_string (P:=UB) w 9 37 5 d underlying9 underlying37 underlying5;refine P1 (Yt w d.size 0 5) fun C E=>have B:Hid (d.size<=C):=Tn (by rw[<-E];exact grownCap_ge _ _ _ _);have V:Hid (C<=VL):=Tn (by rw[<-E];exact Yh _ _ _ _ Pr);?_;rw[E]at k0;have f:(ZJ d C).size=C:=by
  have:=B.out;unfold ZJ;rw[Array.size_append,Array.size_map,Array.size_replicate];show d.size+(C-d.size)=C
  omega
 refine P1 (w.drew.alloc (Tq (ZJ d C) 5 ((ZJ d C).size,(ZJ d C).size+1))) fun t T=>P1 w.heap.size fun G q=>have J:Hid (t.heap[G]?=Ts (Tq (ZJ d C) 5 (C,C+1))):=Tn (by rw[<-T,<-q,f];exact UZ w.drew _);P3 (show aq w t by rw[<-T];exact aa (ap _) (af P0 _)) q f fun s M W=>?_
 have HW:Hid (∀(i:Nat)(x:UInt8),d.data.toList[i]?=Ts x->(ZJ d C)[i]?=Ts (Ti Uy (x.toNat:Int))):=Tn (fun i x Z=>by
  have hi:=(UU.1 Z).1;rw[bytesRow_at d C i RM];have:=(UU.1 Z).2;rw[Array.getElem_toList]at this
  rw[this])
 have y:d.data.toList.length=d.size:=Pm;refine P3 y A hb fun R N HB=>?_;rw[T,q]at k0;go_enter func156,ntmps156;go_wp2_with fail;try rw[q]
 refine(uw ps b c t (fun p hp=>(N p hp).ext s.out) (fun j p Q=>ae (HB j p Q) s) hl Ph).mono ?_;rintro e I⟨v2,rfl,r,D⟩;have L:=Tn (aM J (Uh (S:=fun _=>False) D) (fun h=>h));obtain⟨a2,c2,H,_⟩:=Yz rfl r;subst H;refine P4 (Yz rfl r) D fun l F=>P1 ((ps.flatMap (·.2)).length) fun m K=>?_;rw[K]at l z⊢;obtain⟨v3,O,g,u,X⟩:=Mo 37 L (UY _) W R B V HW l Ph;refine P4 u X fun U HF=>?_;rw[fD]at g;go_wp2;go_ret;refine⟨_,rfl,U,(aa s F).trans (HF.below (aa s F).size (fun k o=>SC))⟩
end
section
attribute [local irreducible] ak
def IT(D:Nat)(log at_:Int)(leaf:nD):List (UV->UN->Prop):=
 [fun v _=>v=UK (Ts ⟨D,0,U8⟩),fun v _=>v=Ti Tl log,fun v w=>∃a c,v=Tm a 8 c/\aJ w (Tm a 8 c) (fq log),
  fun v _=>v=UK (Ts ⟨D,1,U8⟩),fun v _=>v=Ti Tl at_,fun v w=>∃a c,v=Tm a 8 c/\aJ w (Tm a 8 c) (fq at_),
  fun v _=>v=UK (Ts ⟨D,2,U8⟩),fun v _=>v=UT #[ag leaf.1,ag leaf.2],fun v w=>∃a c,v=Tm a 16 c/\aJ w (Tm a 16 c) (eq leaf),
  fun v w=>∃g a1 n1 a2 n2 a3 n3,v=Tm (Ts ⟨g,0,U8⟩) 3 3/\aJ w (Tm a1 8 n1) (fq log)/\aJ w (Tm a2 8 n2) (fq at_)/\aJ w (Tm a3 16 n3) (eq leaf)/\∀(j:Nat)(u:UV),[Tm a1 8 n1,Tm a2 8 n2,Tm a3 16 n3][j]?=Ts u->w.cell? ⟨g,j,U8⟩=Ts u,
  fun v w=>aJ w v (dU log at_ leaf)]
def abF{leaf:nD}:∀p∈IT D log at_ leaf,∀v w b,p v w->aq w b->p v b:=by
 intro p x;simp only[IT,PD]at x;rcases x with rfl|rfl|rfl|rfl|rfl|rfl|rfl|rfl|rfl|rfl|rfl
 .exact fun _ _ _ h _=>h
 .exact fun _ _ _ h _=>h
 .exact Ub
 .exact fun _ _ _ h _=>h
 .exact fun _ _ _ h _=>h
 .exact Ub
 .exact fun _ _ _ h _=>h
 .exact fun _ _ _ h _=>h
 .exact Ub
 .rintro v w b⟨g,a1,n1,a2,n2,a3,n3,h1,f,A,m,l⟩d;exact⟨g,a1,n1,a2,n2,a3,n3,h1,f.ext d,A.ext d,m.ext d,fun j u Q=>ae (l j u Q) d⟩
 exact fun _ _ _ h d=>h.ext d
def aeD(t:UN)(log at_:Int)(leaf:nD)(vs:List UV)(b:UN):Prop:=aJ b (vs.getD 10 VM) (dU log at_ leaf)/\vs.getD 11 VM=vs.getD 10 VM/\aq t b
def O6{t}{leaf:nD}(p:vs.length=12)(X:vs.getD 10 VM=u)(h1:aJ b u (dU log at_ leaf))(c:aq t b):aeD t log at_ leaf (vs.set 11 u) b:=by
 have d:(vs.set 11 u).getD 10 VM=u:=by rw[Uj,Vl Pi,<-Uj];exact X
 have f:(vs.set 11 u).getD 11 VM=u:=by rw[Uj,Vq Ph];rfl
 exact⟨by rw[d];exact h1,by rw[d,f],c⟩
def wH(log at_)(leaf:nD)(e s w)(h1:leaf.1<2^64)(c:leaf.2<2^64):
  VB UB 92 #[UT #[Ti Tl log,Ti Tl at_,ag leaf.1,ag leaf.2,ag e,ag s]] w (fun en b=>∃v,en=UO v/\aJ b v (dU log at_ leaf)/\aq w b):=by
 have N:=Tn (Xy h1 c);refine P1 w.heap.size fun D C=>P1 (w.alloc (Tq #[Ti Tl log,Ti Tl at_,ag leaf.1,ag leaf.2,ag e,ag s] 101)) fun t T=>have Z:=Tn (show aq w t from QA);have S:Hid (t.heap[D]?=Ts (Tq #[Ti Tl log,Ti Tl at_,ag leaf.1,ag leaf.2,ag e,ag s] 101 (0,0))):=Tn (PP T C);PR S fun c0 c1 c2 c3=>?_;go_enter func92,ntmps92;go_upto_region 1 with fail;try rw[T]
 try rw[C]
 refine(WV (n:=0)).1 ?_;refine gp (r:=U8) 11 12 [Ts 3,Ts 4,Ts 5,Ts 6,Ts 7,Ts 8,Ts 9,Ts 10,Ts 11,Ts 12,Ts 13,Ts 2] Pg Pg Pg Pg rfl rfl Pg (IT D log at_ leaf) abF (aeD t log at_ leaf) ?steps ?last ?fin
 case steps=>
  simp only[Xx,Wk];refine⟨?_,?_,?_,?_,?_,?_,?_,?_,?_,?_,?_,trivial⟩
  .intro vs b l f y;simp only[aK];have ys:=Tn (aa (ap t) f);exact Td
  .intro vs b l f y;have t9:=y 0 Pg;simp only[IT,Xp]at t9;simp only[aK,Xp,Ua,P7];rw[t9];have ys:=Tn (aa (ap t) f);have z0:=ae c0 ys;exact Td
  .intro vs b l f y;have K:=y 1 Pg;simp only[IT,PW]at K;simp only[aK,Ua,PV];rw[K];have ys:=Tn (aa (ap t) f);unfold ak;go_simp;go_at_call 157;refine(zH log b).mono ?_;rintro e Y⟨v5,rfl,F,A⟩;obtain⟨a5,c5,z,V⟩:=F;rw[show(fq log).length=8 from aI _ _]at z;subst z;refine⟨_,rfl,?_,A⟩;exact⟨a5,c5,rfl,⟨a5,c5,by rw[show(fq log).length=8 from aI _ _],V⟩⟩
  .intro vs b l f y;simp only[aK,Ua,PV];have ys:=Tn (aa (ap t) f);exact Td
  .intro vs b l f y;have G:=y 3 Pg;simp only[IT,PW]at G;simp only[aK,Ua,PV];rw[G];have ys:=Tn (aa (ap t) f);have z1:=ae c1 ys;exact Td
  .intro vs b l f y;have J:=y 4 Pg;simp only[IT,PW]at J;simp only[aK,Ua,PV];rw[J];have ys:=Tn (aa (ap t) f);unfold ak;go_simp;go_at_call 157;refine(zH at_ b).mono ?_;rintro e Y⟨v5,rfl,F,A⟩;obtain⟨a5,c5,z,V⟩:=F;rw[show(fq at_).length=8 from aI _ _]at z;subst z;refine⟨_,rfl,?_,A⟩;exact⟨a5,c5,rfl,⟨a5,c5,by rw[show(fq at_).length=8 from aI _ _],V⟩⟩
  .intro vs b l f y;simp only[aK,Ua,PV];have ys:=Tn (aa (ap t) f);exact Td
  .intro vs b l f y;have H:=y 6 Pg;simp only[IT,PW]at H;simp only[aK,Ua,PV];rw[H];have ys:=Tn (aa (ap t) f);have z2:=ae c2 ys;have z3:=ae c3 ys;exact Td
  .intro vs b l f y;have I:=y 7 Pg;simp only[IT,PW]at I;simp only[aK,Ua,PV];rw[I];have ys:=Tn (aa (ap t) f);unfold ak;go_simp;go_at_call 110;refine(jY leaf b N.1 N.2).mono ?_;rintro e Y⟨v5,rfl,E,A⟩;obtain⟨a5,c5,z,V⟩:=Yz (aT leaf) E;rw[aT]at z;subst z;refine⟨_,rfl,?_,A⟩;exact⟨a5,c5,rfl,Yz (aT leaf) E⟩
  .intro vs b l f y;have o:=y 2 Pg;simp only[IT,PW]at o;have m:=y 5 Pg;simp only[IT,PW]at m;have q:=y 8 Pg;simp only[IT,PW]at q;refine UX o fun a1 o=>UX o fun n1 o=>UX m fun a2 m=>UX m fun n2 m=>UX q fun a3 q=>UX q fun n3 q=>have L:=o.1;have O:=m.1;have R:=q.1;P3 o.2 m.2 q.2 fun H2 H5 W=>?_;simp only[aK,Ua,PV];rw[L,O,R];have ys:=Tn (aa (ap t) f);unfold ak;go_simp;have x:=cQ b [Tm a1 8 n1,Tm a2 8 n2,Tm a3 16 n3] 37;refine⟨?_,af P0 _⟩;exact⟨_,a1,n1,a2,n2,a3,n3,rfl,H2.ext (af P0 _),H5.ext (af P0 _),W.ext (af P0 _),fun j u Q=>by have:=x j u Q;rwa[show((⟨b.heap.size,0,U8⟩:VW).add j)=⟨b.heap.size,j,U8⟩from Px]at this⟩
  intro vs b l f y;have d:=y 9 Pg;simp only[IT,PW]at d;refine UX d fun g d=>UX d fun a1 d=>UX d fun n1 d=>UX d fun a2 d=>UX d fun n2 d=>UX d fun a3 d=>UX d fun n3 d=>have M:=d.1;P5 d.2.1 d.2.2.1 d.2.2.2.1 d.2.2.2.2 fun H2 H5 W HC=>?_;simp only[aK,Ua,PV];rw[M];have ys:=Tn (aa (ap t) f);unfold ak;go_simp;go_at_call 156
  refine(aaM ⟨#[112,114,111,109,105,115,101]⟩ [(Tm a1 8 n1,fq log),(Tm a2 8 n2,fq at_),(Tm a3 16 n3,eq leaf)] g 3 b Pi (fun p x=>by
   rcases VN.1 x with rfl|x
   .exact H2.out
   rcases VN.1 x with rfl|x
   .exact H5.out
   rw[VP]at x;subst x;exact W.out) (fun j p Q=>HC.out j p.1 (by
   have:=congrArg (Xb Prod.fst) Q;rw[<-VU]at this
   exact this)) Pm (by simp[fq,aI,aT])).mono ?_
  rintro e Y⟨v5,rfl,F,A⟩;refine⟨_,rfl,?_,A⟩;have h:=F;simp only[Vh,Yv,Ww]at h;exact h
 case last=>
  intro vs b l f y;have B:=y 10 Pi;simp only[IT,PW]at B;refine P1 (vs.getD 10 VM) fun u X=>?_;simp only[aK,Ua,PV];rw[X]at B⊢;refine P5 B X (aa (ap t) f) l fun U HU ys HL=>?_;unfold ak;go_simp;exact O6 HL HU U ys
 intro vs b l P;obtain⟨hb,he,f⟩:=P;refine P4 hb (aa Z f) fun U ys=>?_;simp only[aK,Ua,PV];rw[he];generalize vs.getD 10 VM=u at U⊢;go_wp2;go_ret;exact⟨_,rfl,U,ys⟩
end
section
attribute [local irreducible] ak
def Gu(k:Ky)(log ok)(m:au)(v)(g:Sg)(w)(o:k.key<2^64)(r:g.e<2^64)(z:g.s<2^64)(K:aJ w v m)(p:m.length<=60000000000000):
  VB UB 122 #[UT #[Ti Tl k.log,ag k.key,Ti Tl k.delay],Ti Tl log,U1 ok,v,UT #[ag g.e,ag g.s]] w (bM (Ti Tl (jS k log ok m g)) w):=by
 refine P3 K (Xy o (Xy r z)) p fun u l y=>P1 w.heap.size fun D C=>P1 ((w.alloc (Tq #[Ti Tl k.log,ag k.key,Ti Tl k.delay] 90)).alloc (Tq #[ag g.e,ag g.s] 95)) fun t T=>have d:=Tn (show aq w t from RS);have x:t.heap[D]?=Ts (Tq #[Ti Tl k.log,ag k.key,Ti Tl k.delay] 90 (0,0)):=Qi;?_;have N:t.heap[D+1]?=Ts (Tq #[ag g.e,ag g.s] 95 (0,0)):=by rw[<-T,<-C];have:=UZ (w.alloc (Tq #[Ti Tl k.log,ag k.key,Ti Tl k.delay] 90)) (Tq #[ag g.e,ag g.s] 95);rwa[Ud]at this
 refine PM x fun c0 c1=>PM N fun A B=>have c:Hid (jS k log ok m g=if !dZ log|| !ok then 1 else if log≠k.log then 240 else lI k.key m g):=Tn rfl;?_;go_enter func122,ntmps122;go_upto_region 1 with fail;try rw[T]
 try rw[C]
 go_wp2_with fail;refine(oC log t).mono ?_;rintro e b⟨rfl,rfl⟩;cases hn:dZ log with
 |false=>
  have Z:Hid (jS k log ok m g=1):=Tn (by rw[c.out,hn];rfl);exact Zfa
 |true=>
  rw[hn]at c;cases ok with
  |false=>
   have Z:Hid (jS k log false m g=1):=Tn (by rw[c.out];rfl);exact Zfa
  |true=>
   by_cases j:log=k.log
   .have Z:Hid (jS k log true m g=lI k.key m g):=Tn (by rw[c.out,if_neg Pi,if_neg (by simp[j])]);go_wp2_with fail;refine P2 (Gp k.key v m g b l.1 l.2.1 l.2.2 (u.ext d) y) fun E f=>have q:=Tn (aa d f);?_;go_wp2;go_ret;exact⟨Ps,q⟩
   have Z:Hid (jS k log true m g=240):=Tn (by rw[c.out,if_neg Pi,if_pos j]);exact Zfa
def IA(E:Nat)(c kd:Int)(b:Nat)(log at_:Int)(leaf:nD)(ge gs:Nat):List (UV->UN->Prop):=
 [fun v _=>v=UT #[Ti Tl c,ag b,Ti Tl kd],fun v _=>v=UK (Ts ⟨E,0,U8⟩),fun v _=>v=Ti Tl log,fun v _=>v=UK (Ts ⟨E,1,U8⟩),fun v _=>v=Ti Tl at_,fun v _=>v=U1 (dZ at_),
  fun v _=>v=UT #[Ti Tl log,Ti Tl at_,ag leaf.1,ag leaf.2,ag ge,ag gs],fun v w=>aJ w v (dU log at_ leaf),fun v _=>v=UK (Ts ⟨E,4,U8⟩),fun v _=>v=UT #[ag ge,ag gs],
  fun v _=>v=Ti Tl (jS ⟨c,b,kd⟩ log (dZ at_) (dU log at_ leaf) ⟨ge,gs⟩)]
def acY{d kd c}{leaf:nD}{ge gs}:∀p∈IA E d kd c log at_ leaf ge gs,∀v w b,p v w->aq w b->p v b:=by
 intro p x;simp only[IA,PD]at x;rcases x with rfl|rfl|rfl|rfl|rfl|rfl|rfl|rfl|rfl|rfl|rfl;all_goals first|exact fun _ _ _ h _=>h|exact fun _ _ _ h g=>h.ext g
def aeK(t:UN)(r:UV)(vs:List UV)(b:UN):Prop:=vs.getD 11 VM=r/\aq t b
def Ns{t}(p:vs.length=12)(c:aq t b):aeK t u (vs.set 11 u) b:=⟨by rw[Uj,Vq Ph];rfl,c⟩
def wG(l kd:Int)(f)(log at_:Int)(leaf:nD)(ge gs)(w:UN)(J:f<2^64)(h1:leaf.1<2^64)(c:leaf.2<2^64)(M:ge<2^64)(z:gs<2^64):
  VB UB 61 #[UT #[Ti Tl l,ag f,Ti Tl kd],UT #[Ti Tl log,Ti Tl at_,ag leaf.1,ag leaf.2,ag ge,ag gs]] w (bM (Ti Tl (p7 ⟨l,f,kd⟩ ⟨log,at_,leaf,⟨ge,gs⟩⟩)) w):=by
 refine P4 (Xy h1 c) (Xy J (Xy M z)) fun K I=>P1 w.heap.size fun D C=>P1 ((w.alloc (Tq #[Ti Tl l,ag f,Ti Tl kd] 90)).alloc (Tq #[Ti Tl log,Ti Tl at_,ag leaf.1,ag leaf.2,ag ge,ag gs] 101)) fun t T=>have s:=Tn (show aq w t from RS);have x:t.heap[D]?=Ts (Tq #[Ti Tl l,ag f,Ti Tl kd] 90 (0,0)):=Qi;?_;have N:t.heap[D+1]?=Ts (Tq #[Ti Tl log,Ti Tl at_,ag leaf.1,ag leaf.2,ag ge,ag gs] 101 (0,0)):=by rw[<-T,<-C];have:=UZ (w.alloc (Tq #[Ti Tl l,ag f,Ti Tl kd] 90)) (Tq #[Ti Tl log,Ti Tl at_,ag leaf.1,ag leaf.2,ag ge,ag gs] 101);rwa[Ud]at this
 refine PK x fun k0 R S=>Pd N fun c0 c1 c2 c3 c4 c5=>?_;go_enter func61,ntmps61;go_upto_region 1 with fail;try rw[T]
 try rw[C]
 refine(WV (n:=0)).1 ?_;refine gp (r:=U8) 11 12 [Ts 5,Ts 6,Ts 7,Ts 8,Ts 9,Ts 10,Ts 11,Ts 12,Ts 13,Ts 14,Ts 15,Ts 4] Pg Pg Pg Pg rfl rfl Pg (IA (D+1) l kd f log at_ leaf ge gs) acY (aeK t (Ti Tl (jS ⟨l,f,kd⟩ log (dZ at_) (dU log at_ leaf) ⟨ge,gs⟩))) ?steps ?last ?fin
 case steps=>
  simp only[Xx,Wk];refine⟨?_,?_,?_,?_,?_,?_,?_,?_,?_,?_,?_,trivial⟩
  .intro vs b p g y;simp only[aK];have ys:=Tn (aa (ap t) g);have W:=ae k0 ys;have y1:=ae R ys;have Y:=ae S ys;exact Td
  .intro vs b p g y;simp only[aK,Xp,Ua,P7];have ys:=Tn (aa (ap t) g);exact Td
  .intro vs b p g y;have G:=y 1 Pg;simp only[IA,PW]at G;simp only[aK,Ua,PV];rw[G];have ys:=Tn (aa (ap t) g);have z0:=ae c0 ys;exact Td
  .intro vs b p g y;simp only[aK,Ua,PV];have ys:=Tn (aa (ap t) g);exact Td
  .intro vs b p g y;have q:=y 3 Pg;simp only[IA,PW]at q;simp only[aK,Ua,PV];rw[q];have ys:=Tn (aa (ap t) g);have Q:=ae c1 ys;exact Td
  .intro vs b p g y;have H:=y 4 Pg;simp only[IA,PW]at H;simp only[aK,Ua,PV];rw[H];have ys:=Tn (aa (ap t) g);unfold ak;go_simp;go_at_call 83;refine(oC at_ b).mono ?_;rintro e O⟨rfl,rfl⟩;refine⟨_,rfl,?_,P0⟩;exact rfl
  .intro vs b p g y;simp only[aK,Ua,PV];have ys:=Tn (aa (ap t) g);have z0:=ae c0 ys;have Q:=ae c1 ys;have Z:=ae c2 ys;have z3:=ae c3 ys;have z4:=ae c4 ys;have z5:=ae c5 ys;exact Td
  .intro vs b p g y;have E:=y 6 Pg;simp only[IA,PW]at E;simp only[aK,Ua,PV];rw[E];have ys:=Tn (aa (ap t) g);unfold ak;go_simp;go_at_call 92;refine(wH log at_ leaf ge gs b K.1 K.2).mono ?_;rintro e O⟨v5,rfl,L,o⟩;refine⟨_,rfl,?_,o⟩;exact L
  .intro vs b p g y;simp only[aK,Ua,PV];have ys:=Tn (aa (ap t) g);exact Td
  .intro vs b p g y;have F:=y 8 Pg;simp only[IA,PW]at F;simp only[aK,Ua,PV];rw[F];have ys:=Tn (aa (ap t) g);have z4:=ae c4 ys;have z5:=ae c5 ys;exact Td
  intro vs b p g y;have t9:=y 0 Pg;simp only[IA,Xp]at t9;have B:=y 2 Pg;simp only[IA,PW]at B;have A:=y 5 Pg;simp only[IA,PW]at A;have j:=y 7 Pg;simp only[IA,PW]at j;have m:=y 9 Pg;simp only[IA,PW]at m;refine P1 (vs.getD 7 VM) fun u X=>?_;simp only[aK,Ua,PV];rw[t9,B,A,m];rw[X]at j⊢;refine P4 j (aa (ap t) g) fun U ys=>?_;unfold ak;go_simp;go_at_call 122;refine(Gu ⟨l,f,kd⟩ log (dZ at_) (dU log at_ leaf) u ⟨ge,gs⟩ b I.1 I.2.1 I.2.2 U (by unfold dU fq Ct;simp[aI,aT])).mono ?_;rintro e O⟨rfl,o⟩;refine⟨_,rfl,?_,o⟩;exact rfl
 case last=>
  intro vs b p g y;have d:=y 10 Pi;simp only[IA,PW]at d;simp only[aK,Ua,PV];rw[d];refine P4 (aa (ap t) g) p fun ys V=>?_;unfold ak;go_simp;exact Ns V ys
 intro vs b p P;obtain⟨hb,g⟩:=P;have ys:=Tn (aa s g);simp only[aK,Ua,PV];rw[hb];exact Ze9
end
end Go.Proofs.YtjmgalpkbkcmkaaGreatDoor

import Derived.Test.YtjmgalpkbkcmkaaGreatDoorQ03
set_option maxRecDepth 100000
set_option maxHeartbeats 16000000
set_option linter.all false
namespace Go.Proofs.YtjmgalpkbkcmkaaGreatDoor
open Go.RowKit Go.Proofs.Tryz Go.Proofs.YtjmgalpkbkcmkaaGreatDoor.Tryz
open _root_.Array renaming getElem?_eq_none->WB,getElem?_eq_some_iff->UE,replicate_zero->WY,replicate_succ->WX
open Bool renaming and_eq_true->V7,eq_iff_iff->YH,true_and->Wo
open Go renaming World->UN,frozen_of_row->VQ,Calls->VB,callFunc->Wu,callsIn_wide->Vn,info_parts->WN,maxLen->VL,Value->UV,Boxed->VX,callsIn_of_wp_marks->YV,Addr->VW,TypeId->WR,results->Vo,bodyPost_ret->VC,heap_setCell_same->VE
open Go.Act renaming put->Ua
open Go.Boxed renaming new->Wt
open Go.Ending renaming returned->UO
open Go.Fn renaming func->ZP
open Go.IntKind renaming u64->Tt,u8->Uy,i64->Tl
open Go.Lib renaming hid->Tn,bitLen->Yd,byteCells->VH
open Go.Obj renaming cells->Tq
open Go.Oper renaming semAt_some->ZA
open Go.Proofs renaming intOf->VS,enters_of->Vv
open Go.Proofs.Tryz renaming prog->UB
open Go.Proofs.YtjmgalpkbkcmkaaGreatDoor.Fr renaming drew->Xg,setCell->Uz,refl->Z5,of_ext->Uh
open Go.Proofs.YtjmgalpkbkcmkaaGreatDoor.aq renaming grown->ZB
open Go.Value renaming string->UH,slice->Tm,tuple->UW,bool->U1,ownBlock->Vt,pointer->UK,agg->UT,int->Ti
open Go.World renaming size_alloc->Ud,cell?->Wc,alloc_heap_new->UZ,ownsRow_nil->WO
open Int renaming eq_ofNat_of_zero_le->WL,toNat_natCast->XU
open List renaming append_toArray->Wi,length_nil->VJ,flatMap_cons->Vh,map_append->WK,length_take->VZ,length_drop->VT,range->We,length_append->Uo,push_toArray->XF,flatMap_nil->Yv,mem_of_getElem?->Uv,take_add_one->Xk,drop_eq_getElem_cons->WT,nil_append->Vd,length_cons->Up,size_toArray->WG,flatMap_append->Xw,getElem?_take->XM,mem_map->Wl,take_zero->Wk,getElem?_eq_some_iff->UU,getElem?_eq_getElem->V8,take_succ_cons->Xx,length_map->VR,length_pos_iff->YL,cons_append->Vu,getD_eq_getElem?_getD->Uj,map_nil->Ym,take_of_length_le->VD,mem_cons->VN,all_eq_true->WE,getElem?_map->VU,append_nil->Ww,getElem?_drop->YE,eq_nil_of_length_eq_zero->VA,map_cons->WI,append_assoc->Ws,getElem?_range->Yp
open List.cons renaming injEq->Yq
open Nat renaming add_mul->ZC,not_lt_zero->YG,lt_trans->WF,le_of_lt->Yn,mul_one->XT,zero_add->VY,div_add_mod'->YJ,le_refl->UY,reduceAdd->VO,mod_lt->Wf,reduceSub->YI,zero_mul->Yx,lt_of_lt_of_le->Wp,mod_eq_of_lt->Yj,zero_le->VF,le_trans->VG
open Option renaming some->Ts,none->U8,map_some->Wm
open Option.some renaming inj->Vm,injEq->Vw
open UInt8 renaming ofNat->VI
variable {A b c d w:World} {U Y ab b1 b2 g hi i j k m n q rb y:Nat} {a:Option Addr} {e t:TypeId} {f:Nat->Value} {u v v2 x z:Value} {vs:List Value}
abbrev iE:Nat:=2305843009213693951
def iY(a b:Nat):Nat:=(a+b)%iE
def qf(a b:Nat):Nat:=a*b%iE
def jL(a b):iY a b<iE:=Wf _ Pi
def Ig(a b):qf a b<iE:=Wf _ Pi
def rj(hi b:Nat):Nat:=(hi*2^64+b)%iE
def adG(hi b)(h:hi<288230376151711744)(p:b<2^64):
  (if iE<=(b%2305843009213693952+(hi*8+b/2305843009213693952))%2305843009213693952+(b%2305843009213693952+(hi*8+b/2305843009213693952))/2305843009213693952 then
   (b%2305843009213693952+(hi*8+b/2305843009213693952))%2305843009213693952+(b%2305843009213693952+(hi*8+b/2305843009213693952))/2305843009213693952-iE else
   (b%2305843009213693952+(hi*8+b/2305843009213693952))%2305843009213693952+(b%2305843009213693952+(hi*8+b/2305843009213693952))/2305843009213693952)=rj hi b:=by
 unfold rj iE;split<;>omega
def Kn(a:Nat):rj 0 a=a%iE:=by unfold rj;rw[Yx,VY]
def Fe(a b):rj (a*b/2^64) (a*b%2^64)=qf a b:=by
 unfold rj qf;rw[YJ]
def L4(a b):qf (a%iE) (b%iE)=qf a b:=by unfold qf;exact(Nat.mul_mod a b iE).symm
def MJ(a b):(a%iE+b%iE)%iE=iY a b:=(Nat.add_mod a b iE).symm
def abD(x:Nat):Nat:=
 let a:=qf x x
 let b:=qf a a
 let c:=qf b b
 let d:=qf c c
 qf x d
def Nk(x):abD x<iE:=Ig _ _
structure rX where
 a:Nat
 b:Nat
 c:Nat
def key(r i:Nat):Nat:=(3*r+i+1)*(3*r+i+1)*(3*r+i+1)+7
def af5(r:Nat)(s:rX):rX:=
 let x:=abD (iY s.a (key r 0))
 let y:=abD (iY s.b (key r 1))
 let z:=abD (iY s.c (key r 2))
 let t:=iY (iY (iY 0 x) y) z
 ⟨iY x t,iY y t,iY z t⟩
def fo:Nat->Nat->rX->rX
 |0,_,s=>s
 |k+1,r,s=>fo k (r+1) (af5 r s)
def Fg(s:rX):rX:=fo 8 0 s
def le:au->Nat
 |[]=>0
 |c::t=>c.toNat+256*le t
def Ou:∀s:au,le s<256^s.length
 |[]=>by simp[le]
 |c::t=>by
  have h1:=Ou t;have b:=c.toNat_lt;rw[le,Up,Nat.pow_succ];omega
def Ii:∀(s:au)(c:UInt8),le (s++[c])=le s+c.toNat*256^s.length
 |[],c=>by simp[le]
 |x::s,c=>by
  rw[Vu,le,Ii s c,le,Up,Nat.pow_succ,Nat.mul_add,<-Nat.add_assoc];congr 1;rw[Nat.mul_comm (256^s.length) 256,<-Nat.mul_assoc,<-Nat.mul_assoc,Nat.mul_comm c.toNat 256]
def ae4:Nat->au->List Nat
 |0,_=>[]
 |n+1,s=>if s=[]then[]else le (s.take 7)::ae4 n (s.drop 7)
def uE(s:au):List Nat:=ae4 s.length s
def wt:∀(n m:Nat)(s:au),s.length<=n->s.length<=m->ae4 n s=ae4 m s
 |0,m,s,h,_=>by
  have:s=[]:=VA Ph;subst this;cases m<;>simp[ae4]
 |n+1,0,s,_,h=>by
  have:s=[]:=VA Ph;subst this;simp[ae4]
 |n+1,m+1,s,h,b=>by
  unfold ae4;by_cases z:s=[]
  .rw[if_pos z,if_pos z]
  rw[if_neg z,if_neg z];have p:0<s.length:=YL.2 z;rw[wt n m _ Py Py]
def lX{s:au}(h:s≠[]):uE s=le (s.take 7)::uE (s.drop 7):=by
 have p:0<s.length:=YL.2 h;unfold uE;obtain⟨n,hn⟩:∃n,s.length=n+1:=⟨s.length-1,Ph⟩;rw[hn];show(if s=[]then[]else le (s.take 7)::ae4 n (s.drop 7))=_
 rw[if_neg h,wt n (s.drop 7).length _ Py (UY _)]
def afT{s:au}:∀x∈uE s,x<72057594037927936:=by
 refine P1 s.length fun n hn=>?_;induction n using Nat.strongRecOn generalizing s with
 |_ n b=>
  by_cases h:s=[]
  .subst h;intro x m;cases m
  rw[lX h];intro x m;rcases VN.1 m with rfl|m
  .have h1:=Ou (s.take 7);have c:(s.take 7).length<=7:=QD;exact Wp h1 (VG (Nat.pow_le_pow_right Pi c) Pi)
  have p:0<s.length:=YL.2 h;exact b (s.drop 7).length Py rfl x m
def oJ:List Nat->rX->rX
 |[],s=>s
 |[x],s=>Fg ⟨iY s.a x,s.b,s.c⟩
 |x::y::t,s=>oJ t (Fg ⟨iY s.a x,iY s.b y,s.c⟩)
def NS(b:au):rX:=if b=[]then Fg ⟨0,0,0⟩else oJ (uE b) ⟨0,0,b.length⟩
abbrev nD:=Nat×Nat
def bF(b:au):nD:=((NS b).a,(NS b).b)
def be:Nat->Nat->au
 |0,_=>[]
 |k+1,n=>VI (n/256^k)::be k n
def aI:∀k n,(be k n).length=k
 |0,_=>rfl
 |k+1,n=>by rw[be,Up,aI k n]
def cj(tag:au)(parts:List au):nD:=bF (VI tag.length::(tag++parts.flatMap fun p=>be 4 p.length++p))
def eq(s:nD):au:=be 8 s.1++be 8 s.2
def aT(s:nD):(eq s).length=16:=by unfold eq;rw[Uo,aI,aI]
def jh(s:nD)(m:Nat):Nat:=if m=0 then 0 else(s.1*2305843009213693952+s.2)%m
def AW(r s):(af5 r s).a<iE/\(af5 r s).b<iE/\(af5 r s).c<iE:=⟨jL _ _,jL _ _,jL _ _⟩
def Hw:∀(k r:Nat)(s:rX),(fo (k+1) r s).a<iE/\(fo (k+1) r s).b<iE/\(fo (k+1) r s).c<iE
 |0,r,s=>AW r s
 |k+1,r,s=>Hw k (r+1) (af5 r s)
def qJ(s):(Fg s).a<iE/\(Fg s).b<iE/\(Fg s).c<iE:=Hw 7 0 s
def se:∀{l:List Nat}(s:rX),l≠[]->(oJ l s).a<iE/\(oJ l s).b<iE/\(oJ l s).c<iE
 |[],s,h=>absurd rfl h
 |[x],s,_=>qJ _
 |x::y::t,s,_=>by
  by_cases d:t=[]
  .subst d;exact qJ _
  exact se (l:=t) _ d
def lk(b:au):(bF b).1<iE/\(bF b).2<iE:=by
 unfold bF NS;by_cases h:b=[]
 .rw[if_pos h];exact⟨(qJ _).1,(qJ _).2.1⟩
 rw[if_neg h];have zs:uE b≠[]:=by rw[lX h];simp
 exact⟨(se _ zs).1,(se _ zs).2.1⟩
abbrev Qp:Nat:=2305843009213691579
abbrev Rp:Nat:=1152921504606845789
def kP(n:Nat):Nat:=if n=0 then 0 else Nat.log2 n+1
def yx(m a out:Nat)(b:Bool):Nat:=if b then out*out%m*a%m else out*out%m
def tc(m a n:Nat):Nat->Nat->Nat
 |0,out=>out
 |k+1,out=>tc m a n k (yx m a out (n.testBit k))
def ii(m a n:Nat):Nat:=tc m a n (kP n) 1
def LR(K:0<m)(a out b):yx m a out b<m:=by
 unfold yx;split<;>exact Wf _ K
def CD(K:0<m)(a n):∀(k out:Nat),out<m->tc m a n k out<m
 |0,_,h=>h
 |k+1,out,_=>CD K a n k _ (LR K a out _)
def rS(K:1<m)(a n):ii m a n<m:=CD Ph a n _ _ K
def nz:Nat->Nat->Nat->Nat->Nat->Bool->Nat×Bool
 |0,_,_,U,_,s=>(U,s)
 |f+1,x,y,U,V,s=>if y=0 then(U,s)else nz f y (x%y) V (U+x/y*V) (!s)
def rV:∀(f g x y U V:Nat)(s:Bool),y<=f->y<=g->nz f x y U V s=nz g x y U V s
 |0,g,x,y,U,V,s,h,_=>by
  obtain rfl:y=0:=Ph;cases g<;>simp[nz]
 |f+1,0,x,y,U,V,s,_,h=>by
  obtain rfl:y=0:=Ph;simp[nz]
 |f+1,g+1,x,y,U,V,s,h,c=>by
  unfold nz;by_cases b:y=0
  .rw[if_pos b,if_pos b]
  rw[if_neg b,if_neg b];have:=Wf x (show 0<y from Ph);exact rV f g _ _ _ _ _ Ph Ph
def Hh(m a:Nat):Nat×Bool:=nz m (a%m) m 1 0 true
def ui(m a:Nat):Nat:=if(Hh m a).2 then(Hh m a).1 else m-(Hh m a).1
def CS{x V:Nat}(h:x*V+y*U=m):y*(U+x/y*V)+x%y*V=m:=by
 have h1:=Nat.div_add_mod x y;have c:x*V=y*(x/y)*V+x%y*V:=by rw[<-ZC,h1]
 rw[Nat.mul_add,<-Nat.mul_assoc];omega
def OX{x V:Nat}(b:0<x)(h:x*V+y*U=m):V<=m:=by
 have:1*V<=x*V:=Nat.mul_le_mul_right V b;omega
def vP:∀(f x y U V:Nat)(s:Bool)(m:Nat),0<x->U<=m->x*V+y*U=m->(nz f x y U V s).1<=m
 |0,x,y,U,V,s,m,c,b,K=>b
 |f+1,x,y,U,V,s,m,c,b,K=>by
  unfold nz;split
  .exact b
  next d=>exact vP f y (x%y) V (U+x/y*V) (!s) m Ph (OX c K) (CS K)
def iU:au:=[115,101,99,114,101,116]
def Fw:au:=[110,111,110,99,101]
def Dm:au:=[115,105,103,110]
def jE(tag:au)(parts:List au):Nat:=jh (cj tag parts) (Rp-1)+1
def base(n:Nat):Nat:=ii Qp 4 n
def dP(b c:Nat)(msg:au):Nat:=jh (cj Dm [be 8 b,be 8 c,msg]) Rp
def mM(a b:Nat):Nat:=(a+b)%Rp
def gV(a b:Nat):Nat:=a*b%Rp
def A9(a b:Nat):Nat:=mM a (Rp-b%Rp)
def pC(a b:Nat):Nat:=a*b%Qp
structure Sg where
 e:Nat
 s:Nat
deriving DecidableEq
def lW(b:Nat)(msg:au):Sg:=
 let d:=jE Fw [be 8 b,msg]
 let c:=dP (base d) (base b) msg
 ⟨c,mM (gV c b) d⟩
def sL(x:Nat):Bool:=decide (0<x)&&decide (x<Qp)&&ii Qp x Rp==1
def lI(b:Nat)(msg:au)(g:Sg):Int:=
 if !sL b then 1 else
 if Rp<=max g.e g.s then 40 else
 let p:=ii Qp b g.e
 if p=0 then 40 else
 if dP (pC (base g.s) (ui Qp p)) b msg=g.e then 0 else 40
def kX{s:nD}(h:0<m):jh s m<m:=by
 unfold jh;rw[if_neg Ph];exact Wf _ h
def D7(tag:au)(parts:List au):0<jE tag parts/\jE tag parts<Rp:=by
 have h:jh (cj tag parts) (Rp-1)<Rp-1:=kX Pi;unfold jE;have:Rp=1152921504606845789:=rfl;omega
def uy(a b):mM a b<Rp:=Wf _ Pi
def rf(a b):gV a b<Rp:=Wf _ Pi
structure bq where
 id:Int
 x:Nat
deriving DecidableEq
def ql:au:=[115,104,97,114,101]
def ia:au:=[99,111,109,109,105,116]
def mB(b t:Nat)(c:au):List Nat:=b::(We (t-1)).map fun i=>jh (cj ql [c,[VI (i+1)]]) Rp
def gM(x:Nat):List Nat->Nat->Nat->Nat
 |[],o,_=>o
 |c::l,o,p=>gM x l (mM o (gV c p)) (gV p x)
def iO(b t n:Nat)(c:au):List bq:=(We n).map fun(k:Nat)=>⟨(k:Int)+1,gM (k+1) (mB b t c) 0 1⟩
def ul:List Int->List Int->Bool
 |_,[]=>true
 |a,n::l=>decide (1<=n)&&(decide (n<(Rp:Int))&&(!a.contains n&&ul (a++[n]) l))
def cM(l:List Int):Bool:=ul [] l&&(decide (0<l.length)&&decide (l.length<=7))
def kC(b:List Int)(x:Nat)(id:Int):Nat:=b.foldl (fun o k=>if k=id then o else gV o (A9 x k.toNat)) 1
def j7(b:List Int)(id:Int):Nat:=b.foldl (fun o k=>if k=id then o else gV o (A9 id.toNat k.toNat)) 1
def zL(a:Nat):Nat:=if a%Rp=0 then 0 else ui Rp a
def jq(b:List Int)(x:Nat)(id:Int):Nat:=gV (kC b x id) (zL (j7 b id))
def eS(b:List Int)(id:Int):Nat:=if b.contains id&&cM b then jq b 0 id else 0
def bS(l:List bq):List Int:=l.map (·.id)
def aj0(l:List bq):Bool:=l.all (fun s=>decide (s.x<Rp))&&cM (bS l)
def gA(l:List bq):List bq:=l.map fun s=>⟨s.id,base s.x⟩
def qB(first:List bq)(s:bq):Bool:=first.foldl (fun x k=>pC x (ii Qp k.x (jq (bS first) s.id.toNat k.id))) 1==s.x
def eN(t:Int)(l:List bq):Int:=
 if t<1\/7<t\/(0<l.length/\cM (bS l)=false)then 1 else
 if l.all (fun s=>sL s.x)=false then 1 else
 if(l.length:Int)<t then 50 else
 if(l.drop t.toNat).all (qB (l.take t.toNat))then 0 else 60
structure nt where
 t:Int
 n:Int
 key:Nat
 parts:List bq
def kG(l:List bq)(b:bq->Nat):Nat:=l.foldl (fun n s=>pC n (b s)) 1
def fG:Nat->List bq->Bool
 |_,[]=>true
 |i,p::l=>decide (p.id=(i:Int)+1)&&(sL p.x&&fG (i+1) l)
def dC(c:nt):Int:=
 if c.t<1\/c.n<c.t\/7<c.n\/(c.parts.length:Int)≠c.n\/sL c.key=false then 1 else
 if fG 0 c.parts=false then 1 else
 if eN c.t c.parts≠0 then eN c.t c.parts else
 if kG (c.parts.take c.t.toNat) (fun p=>ii Qp p.x (eS (bS (c.parts.take c.t.toNat)) p.id))=c.key then 0 else 60
def io(s:bq)(b:Nat)(msg:au):Nat:=1+jh (cj ia [be 8 s.x,be 8 s.id.toNat,be 8 b,msg]) (Rp-1)
def bY(s:bq)(b:Int):Int:=if s.id<1\/7<s.id\/Rp<=s.x\/b<0\/1099511627776<b then 1 else 0
def cE(s:bq)(b:Int)(msg:au):bq:=if bY s b=0 then⟨s.id,base (io s b.toNat msg)⟩else⟨0,0⟩
def gD(n:Int):Int->List bq->Bool
 |_,[]=>true
 |last,c::l=>decide (last<c.id)&&(decide (c.id<=n)&&(sL c.x&&gD n c.id l))
def cH(c:nt)(l:List bq):Int:=if gD c.n 0 l=false then 1 else if(l.length:Int)<c.t then 50 else 0
def Bd(c:nt)(msg:au)(l:List bq):Nat:=dP (kG l (·.x)) c.key msg
def iW(c:nt)(msg:au)(l:List bq)(id:Int):Nat:=gV (Bd c msg l) (eS (bS l) id)
def LO(l:List bq)(id:Int):Option bq:=l.find? fun c=>decide (c.id=id)
def pQ(c:nt)(s:bq)(n:Int)(msg:au)(l:List bq):Int:=
 if dC c≠0 then dC c else
 if bY s n≠0 then bY s n else
 if cH c l≠0 then cH c l else
 if LO l s.id=Ts (cE s n msg)then 0 else 60
def jG(c:nt)(s:bq)(n:Int)(msg:au)(l:List bq):bq:=
 if pQ c s n msg l=0 then⟨s.id,mM (io s n.toNat msg) (gV (iW c msg l s.id) s.x)⟩else⟨0,0⟩
def ajW(c:nt)(msg:au)(l:List bq)(p:bq):Int:=
 match LO l p.id with
 |none=>1
 |some k=>if Rp<=p.x then 1 else if base p.x=pC k.x (ii Qp ((c.parts.getD (p.id.toNat-1) ⟨0,0⟩).x) (iW c msg l p.id))then 0 else 60
def gJ(c:nt)(msg:au)(l:List bq)(p:bq):Int:=
 if dC c≠0 then dC c else if cH c l≠0 then cH c l else ajW c msg l p
def jO(v:UV)(w:UN)(e:Ending)(b:UN):Prop:=e=UO v/\b=w
abbrev ag(n:Nat):UV:=Ti Tt (n:Int)
def gu{z:Int}(L:0<=z)(h1:z<2^64):Tt.wrap z=z:=by rw[IntKind.wrap_u64];omega
def OD{a:Nat}(b:a<2^64):bits .and Tt (a:Int) 2305843009213693951=((a%2305843009213693952:Nat):Int):=by
 have h:=bits_and_u64_nat a 2305843009213693951 b Ph;have e:a&&&2305843009213693951=a%2305843009213693952:=Nat.and_two_pow_sub_one_eq_mod a 61;rw[e]at h;exact h
def ajQ{a b:Nat}(c:a<2305843009213693952)(hb:b<8):bits .or Tt ((a*8:Nat):Int) (b:Int)=((a*8+b:Nat):Int):=by
 have h:=bits_or_u64_nat (a*8) b Ph Ph;have e:a*8|||b=a*8+b:=by
  have:=Nat.shiftLeft_add_eq_or_of_lt (i:=3) (b:=b) Ph a;rw[Nat.shiftLeft_eq]at this;exact this.symm
 rw[e]at h;exact h
def O9{b:Nat}(h:hi<288230376151711744)(p:b<2^64):
  Tt.wrap (bits .and Tt (b:Int) 2305843009213693951+bits .or Tt (Tt.wrap ((hi:Int)*8)) ((b:Int)/2305843009213693952))=((b%2305843009213693952+(hi*8+b/2305843009213693952):Nat):Int):=by
 rw[OD p,show Tt.wrap ((hi:Int)*8)=((hi*8:Nat):Int)from QW,show(b:Int)/2305843009213693952=((b/2305843009213693952:Nat):Int)from Ph,ajQ Ph Ph,gu Ph Ph];omega
def M5(h:n<2^64):Tt.wrap (bits .and Tt (n:Int) 2305843009213693951+(n:Int)/2305843009213693952)=((n%2305843009213693952+n/2305843009213693952:Nat):Int):=by
 rw[OD h,show(n:Int)/2305843009213693952=((n/2305843009213693952:Nat):Int)from Ph,gu Ph Ph];omega
def Bz(hi b)(h:hi<288230376151711744)(p:b<2^64)(w:UN):
  VB UB 174 #[ag hi,ag b] w (jO (ag (rj hi b)) w):=by
 refine P1 (rj hi b) fun R g=>have f:=Tn (O9 h p);have cf:=adG hi b h p;P1 (b%2305843009213693952+(hi*8+b/2305843009213693952)) fun n hn=>have d:n<4611686018427387904:=Ph;?_;rw[hn]at cf f;have j:=Tn (M5 (n:=n) Ph);refine P1 (n%2305843009213693952+n/2305843009213693952) fun m K=>have q:m<2305843009213693956:=Ph;?_;rw[K]at cf j;rw[g]at cf⊢;have l:=Tn cf;unfold jO ag;clear g h cf hn K d p;go_enter func174,ntmps174;go_upto_region 2 with fail;rw[f.out];go_upto_region 3 with fail;rw[j.out];by_cases x:iE<=m
 .have Z:=Tn (show m-iE=R by have:=l.out;rwa[if_pos x]at this);have o:decide ((2305843009213693951:Int)<=(m:Int))=true:=by simp;unfold iE at x;omega
  have c:2305843009213693951<=m:=x;have r:Tt.wrap ((m:Int)-2305843009213693951)=(R:Int):=by rw[gu Ph Ph,<-Z.out];unfold iE;omega
  exact Tr
 have Z:=Tn (show m=R by have:=l.out;rwa[if_neg x]at this);have c:¬2305843009213693951<=m:=x;have o:decide ((2305843009213693951:Int)<=(m:Int))=false:=Pp;go_wp2;go_ret;exact⟨by rw[<-Z.out];rfl,rfl⟩
def cd{a:Nat}(h:a<iE):a<2^64:=WF h Pi
def qZ(a)(b:a<2^64)(w:UN):VB UB 104 #[ag a] w (jO (ag (a%iE)) w):=by
 have c:=Tn b;rw[<-Kn];unfold ag jO;go_enter func104,ntmps104;go_wp2_with fail;refine(Bz 0 a Pi c _).mono ?_;rintro e d⟨rfl,rfl⟩;exact Tr
def nT(a b)(d:a<2^64)(hb:b<2^64)(w:UN):VB UB 37 #[ag a,ag b] w (jO (ag (iY a b)) w):=by
 refine P4 d hb fun l f=>P1 (a%iE) fun x m=>P1 (b%iE) fun y U=>have g:x<2305843009213693951:=XN;have p:y<2305843009213693951:=XO;P3 m U (show iY a b=(x+y)%iE by rw[<-m,<-U,MJ]) fun q o Z=>have r:=gu (z:=(x:Int)+(y:Int)) Ph Ph;have j:=Tn (show(x:Int)+(y:Int)=((x+y:Nat):Int)from Ph);?_;rw[Z.out];unfold ag jO;go_enter func37,ntmps37;go_wp2_with fail;refine(qZ a l _).mono ?_;rintro e c⟨rfl,rfl⟩;rw[q.out];go_wp2_with fail;refine(qZ b f _).mono ?_;rintro e c⟨rfl,rfl⟩;rw[o.out];go_wp2_with fail;rw[j.out];refine(qZ (x+y) Ph _).mono ?_;rintro e c⟨rfl,rfl⟩;exact Tr
def Dk(a b)(l:a<2^64)(hb:b<2^64)(w:UN):VB UB 175 #[ag a,ag b] w (jO (ag (qf a b)) w):=by
 refine P4 l hb fun p o=>P1 (a%iE) fun x m=>P1 (b%iE) fun y U=>have c:x<2305843009213693951:=XN;have d:y<2305843009213693951:=XO;PC m U c d (show qf a b=rj (x*y/2^64) (x*y%2^64) by rw[Fe,<-m,<-U,L4]) fun r q j g Z=>?_
 have s:=Tn (show x*y/2^64<288230376151711744 by
  have:x*y<=2305843009213693951*2305843009213693951:=Nat.mul_le_mul (Yn c) (Yn d)
  omega)
 rw[Z.out];unfold ag jO;go_enter func175,ntmps175;go_wp2_with fail;refine(qZ a p _).mono ?_;rintro e f⟨rfl,rfl⟩;rw[r.out];go_wp2_with fail;refine(qZ b o _).mono ?_;rintro e f⟨rfl,rfl⟩;rw[q.out];go_wp2_with fail;refine(bits_Mul64 x y (cd j) (cd g) _).mono ?_;rintro e f⟨rfl,rfl⟩;go_wp2_with fail;refine(Bz _ _ s (Wf _ Pi) _).mono ?_;rintro e f⟨rfl,rfl⟩;exact Tr
section
def ahF:Nat->Nat->Nat
 |0,x=>x
 |i+1,x=>qf (ahF i x) (ahF i x)
def agY(x):abD x=qf x (ahF 4 x):=rfl
def FE{x}(m:x<2^64):∀i,ahF i x<2^64
 |0=>m
 |_+1=>cd (Ig _ _)
def adI(x)(m:x<2^64)(w:UN):VB UB 107 #[ag x] w (jO (ag (abD x)) w):=by
 have b:=Tn m;rw[agY];unfold ag jO;go_enter func107,ntmps107;go_wp2;go_loopw [3,5] (fun y i wr=>∃k:Nat,wr=w/\k<=4/\i=Ti Tl k/\y=Ti Tt (ahF k x:Nat)) (fun _ i _=>4-(VS i).toNat)
 case atStart=>exact⟨0,rfl,Ph,rfl,rfl⟩
 obtain⟨k,rfl,o,rfl,rfl⟩:=hrel;by_cases R:k<4
 .go_wp2_with fail;refine(Dk _ _ (FE b k) (FE b k) _).mono ?_;rintro e c⟨rfl,rfl⟩;go_wp2;go_roundw
  case rel=>exact⟨k+1,Za4,Ph,Pt,rfl⟩
  case measure=>simp[VS];omega
 obtain rfl:k=4:=by omega
 go_wp2_with fail;refine(Dk _ _ b (FE b 4) _).mono ?_;rintro e c⟨rfl,rfl⟩;exact Tr
def kD(w:UN)(b:Nat)(x y z:Nat):Prop:=w.heap[b]?=Ts (Tq #[ag x,ag y,ag z] 198 (0,0))
section
variable {w w':UN} {b x y z:Nat}
def kD.cells(h:kD w b x y z):w.cell? ⟨b,0,U8⟩=Ts (ag x)/\w.cell? ⟨b,1,U8⟩=Ts (ag y)/\w.cell? ⟨b,2,U8⟩=Ts (ag z):=by
 exact Zcv
def kD.frozen(h:kD w b x y z)(i:Nat):w.frozen? ⟨b,i,U8⟩=false:=VQ w b i _ _ h
def kD.set0(h:kD w b x y z)(v):kD (w.setCell ⟨b,0,U8⟩ (ag v)) b v y z:=(VE w b 0 _ _ _ h).trans Pm
def kD.set1(h:kD w b x y z)(v):kD (w.setCell ⟨b,1,U8⟩ (ag v)) b x v z:=(VE w b 1 _ _ _ h).trans Pm
def kD.set2(h:kD w b x y z)(v):kD (w.setCell ⟨b,2,U8⟩ (ag v)) b x y v:=(VE w b 2 _ _ _ h).trans Pm
def kD.lt(h:kD w b x y z):b<w.heap.size:=(UE.1 h).1
def kD.fr{S:Nat->Prop}(h:kD w b x y z)(P:Fr S w w')(c:¬S b):kD w' b x y z:=(P.block b h.lt c).trans h
end
structure zW(F:FuncId)(caps:Array UV)(ab:Nat)(Cap:UN->Nat->Prop)(f:Nat->Nat->Nat->Nat×Nat):Prop where
 enters:∀args w,(Wu F args).run UB w= .ok (.enter F args) w
 small:∀i x t,i<3->x<2^64->t<2^64->(f i x t).1<2^64/\(f i x t).2<2^64
 does:∀(i x t:Nat)(W:UN),i<3->x<2^64->t<2^64->Cap W t->
  VB UB F (#[Ti Tl i,ag x]++caps) W (fun e W'=>e=UO (ag (f i x t).1)/\Cap W' (f i x t).2/\Fr (·=ab) W W')
def fY(f:Nat->Nat->Nat->Nat×Nat)(x y z t:Nat):Nat->(Nat×Nat×Nat)×Nat
 |0=>((x,y,z),t)
 |1=>(((f 0 x t).1,y,z),(f 0 x t).2)
 |2=>(((f 0 x t).1,(f 1 y (f 0 x t).2).1,z),(f 1 y (f 0 x t).2).2)
 |_=>(((f 0 x t).1,(f 1 y (f 0 x t).2).1,(f 2 z (f 1 y (f 0 x t).2).2).1),(f 2 z (f 1 y (f 0 x t).2).2).2)
def ad1{f:Nat->Nat->Nat->Nat×Nat}{x y z t p q r s:Nat}(h:fY f x y z t 0=((p,q,r),s)):fY f x y z t (0+1)=(((f 0 p s).1,q,r),(f 0 p s).2):=by
 exact UJ
def acC{f:Nat->Nat->Nat->Nat×Nat}{x y z t p q r s:Nat}(h:fY f x y z t 1=((p,q,r),s)):fY f x y z t (1+1)=((p,(f 1 q s).1,r),(f 1 q s).2):=by
 exact UJ
def adD{f:Nat->Nat->Nat->Nat×Nat}{x y z t p q r s:Nat}(h:fY f x y z t 2=((p,q,r),s)):fY f x y z t (2+1)=((p,q,(f 2 r s).1),(f 2 r s).2):=by
 exact UJ
def Dx{F b ab}{g:UN->Nat->Prop}{f:Nat->Nat->Nat->Nat×Nat}(h:zW F b ab g f){x y z t}(m:x<2^64)(U:y<2^64)(d:z<2^64)(j:t<2^64):
  ∀k,(fY f x y z t k).1.1<2^64/\(fY f x y z t k).1.2.1<2^64/\(fY f x y z t k).1.2.2<2^64/\(fY f x y z t k).2<2^64:=by
 have h1:=h.small 0 x t Ph m j;have c:=h.small 1 y _ Ph U h1.2;have A:=h.small 2 z _ Ph d c.2;intro k;match k with
 |0=>exact⟨m,U,d,j⟩
 |1=>exact⟨h1.1,U,d,h1.2⟩
 |2=>exact⟨h1.1,c.1,d,c.2⟩
 |_+3=>exact⟨h1.1,c.1,A.1,A.2⟩
def Cf(F ad ab D)(K:UN->Nat->Prop)(f:Nat->Nat->Nat->Nat×Nat)(h:zW F ad ab K f)(zs:D≠ab)(hst:∀A B t,K A t->Fr (·=D) A B->K B t)(x y z t)(m:x<2^64)(U:y<2^64)(hz:z<2^64)(ht:t<2^64)(w)(hb:kD w D x y z)(J:K w t):
  VB UB 105 #[UK (Ts ⟨D,0,U8⟩),.func (.func F) #[] ad] w (fun e G=>(∃v,e=UO v)/\kD G D (fY f x y z t 3).1.1 (fY f x y z t 3).1.2.1 (fY f x y z t 3).1.2.2/\K G (fY f x y z t 3).2/\Fr (fun b=>b=D\/b=ab) w G):=by
 have eg:=h.enters;refine P5 h hst hb J fun HH j HB HC=>?_;go_enter func105,ntmps105;go_wp2;go_loopw [7] (fun i wr=>∃k:Nat,k<=3/\i=Ti Tl k/\kD wr D (fY f x y z t k).1.1 (fY f x y z t k).1.2.1 (fY f x y z t k).1.2.2/\K wr (fY f x y z t k).2/\Fr (fun b=>b=D\/b=ab) w wr) (fun i _=>3-(VS i).toNat)
 case atStart=>exact⟨0,Ph,rfl,HB,HC,Z5 _ _⟩
 obtain⟨k,o,rfl,H,I,P⟩:=hrel;by_cases R:k<3
 .obtain⟨⟨⟨p,q,r⟩,s⟩,g⟩:∃E,fY f x y z t k=E:=⟨_,rfl⟩;have N:=Dx HH m U hz ht k;rw[g]at H I N;dsimp only at H I N;obtain⟨l1,l2,l3,l4⟩:=N;refine P8 H I P g l1 l2 l3 l4 fun V Z HF ys HL HL2 HL3 HL4=>?_;obtain⟨c0,c1,c2⟩:=H.cells;obtain rfl|rfl|rfl:k=0\/k=1\/k=2:=Ph
  .go_wp2_with fail;refine aZ Pg Pg (fun G=>aq wr G) ((Xg (fun _=>False) _).ext (fun _ _ h=>h)) ?_;repeat
    (first|refine az rfl rfl rfl rfl ?_|refine aF rfl rfl rfl rfl ?_|refine aw rfl ?_|refine aj rfl rfl rfl rfl rfl ?_|((first|refine av (v:=?_) rfl rfl (fun hb G l=>?_) ?_|refine ar (v:=?_) rfl rfl rfl (fun hb1 hb G l=>?_) ?_|refine ax (v:=?_) rfl (fun G l=>?_) ?_);rotate_left;(focus(have k0:=ae c0 l;unfold ak;go_simp;first|exact aD l))))
    simp only[Ua,P7]
   refine aA fun wa c=>P3 (V.fr ((Uh (S:=fun _=>False) c).trans (Xg _ _)) (fun h=>h)) (j _ _ _ Z ((Uh c).trans (Xg _ _))) (HF.trans ((Uh c).trans (Xg _ _))) fun M L ac=>?_;go_wp2_with fail;first
   |(go_region_with (refine(HH.does 0 p s _ Ph HL HL4 L).mono ?_;rintro e w3⟨rfl,d,u⟩;refine P3 (M.fr u (fun e=>zs e)) d (ac.trans (u.mono (T:=fun b=>b=D\/b=ab) fun _ _ h=> .inr h)) fun C O Q=>?_;obtain⟨d0,d1,d2⟩:=C.out.cells;have f0:=C.out.frozen 0))
   |fail
   all_goals
    refine P3 (C.set0 (f 0 p s).1) (j _ _ _ O (Uz (S:=fun b=>b=D) w3 ⟨D,0,U8⟩ (ag (f 0 p s).1) rfl)) (Q.trans (Uz (S:=fun b=>b=D\/b=ab) w3 ⟨D,0,U8⟩ (ag (f 0 p s).1) (.inl rfl))) fun X Y W=>?_
    go_wp2
    go_roundw
    case rel=>
     have h9:=ad1 ys;refine⟨0+1,Ph,Pt,?_,?_,W⟩
     .rw[h9];exact X.out
     rw[h9];exact Y.out
    case measure=>simp[VS]
  .go_wp2_with fail;refine aZ Pg Pg (fun G=>aq wr G) ((Xg (fun _=>False) _).ext (fun _ _ h=>h)) ?_;repeat
    (first|refine az rfl rfl rfl rfl ?_|refine aF rfl rfl rfl rfl ?_|refine aw rfl ?_|refine aj rfl rfl rfl rfl rfl ?_|((first|refine av (v:=?_) rfl rfl (fun hb G l=>?_) ?_|refine ar (v:=?_) rfl rfl rfl (fun hb1 hb G l=>?_) ?_|refine ax (v:=?_) rfl (fun G l=>?_) ?_);rotate_left;(focus(have k0:=ae c1 l;unfold ak;go_simp;first|exact aD l))))
    simp only[Ua,P7]
   refine aA fun wa c=>P3 (V.fr ((Uh (S:=fun _=>False) c).trans (Xg _ _)) (fun h=>h)) (j _ _ _ Z ((Uh c).trans (Xg _ _))) (HF.trans ((Uh c).trans (Xg _ _))) fun M L ac=>?_;go_wp2_with fail;first
   |(go_region_with (refine(HH.does 1 q s _ Ph HL2 HL4 L).mono ?_;rintro e w3⟨rfl,d,u⟩;refine P3 (M.fr u (fun e=>zs e)) d (ac.trans (u.mono (T:=fun b=>b=D\/b=ab) fun _ _ h=> .inr h)) fun C O Q=>?_;obtain⟨d0,d1,d2⟩:=C.out.cells;have f0:=C.out.frozen 1))
   |fail
   all_goals
    refine P3 (C.set1 (f 1 q s).1) (j _ _ _ O (Uz (S:=fun b=>b=D) w3 ⟨D,1,U8⟩ (ag (f 1 q s).1) rfl)) (Q.trans (Uz (S:=fun b=>b=D\/b=ab) w3 ⟨D,1,U8⟩ (ag (f 1 q s).1) (.inl rfl))) fun X Y W=>?_
    go_wp2
    go_roundw
    case rel=>
     have h9:=acC ys;refine⟨1+1,Ph,Pt,?_,?_,W⟩
     .rw[h9];exact X.out
     rw[h9];exact Y.out
    case measure=>simp[VS]
  go_wp2_with fail;refine aZ Pg Pg (fun G=>aq wr G) ((Xg (fun _=>False) _).ext (fun _ _ h=>h)) ?_;repeat
   (first|refine az rfl rfl rfl rfl ?_|refine aF rfl rfl rfl rfl ?_|refine aw rfl ?_|refine aj rfl rfl rfl rfl rfl ?_|((first|refine av (v:=?_) rfl rfl (fun hb G l=>?_) ?_|refine ar (v:=?_) rfl rfl rfl (fun hb1 hb G l=>?_) ?_|refine ax (v:=?_) rfl (fun G l=>?_) ?_);rotate_left;(focus(have k0:=ae c2 l;unfold ak;go_simp;first|exact aD l))))
   simp only[Ua,P7]
  refine aA fun wa c=>P3 (V.fr ((Uh (S:=fun _=>False) c).trans (Xg _ _)) (fun h=>h)) (j _ _ _ Z ((Uh c).trans (Xg _ _))) (HF.trans ((Uh c).trans (Xg _ _))) fun M L ac=>?_;go_wp2_with fail;first
  |(go_region_with (refine(HH.does 2 r s _ Ph HL3 HL4 L).mono ?_;rintro e w3⟨rfl,d,u⟩;refine P3 (M.fr u (fun e=>zs e)) d (ac.trans (u.mono (T:=fun b=>b=D\/b=ab) fun _ _ h=> .inr h)) fun C O Q=>?_;obtain⟨d0,d1,d2⟩:=C.out.cells;have f0:=C.out.frozen 2))
  |fail
  all_goals
   refine P3 (C.set2 (f 2 r s).1) (j _ _ _ O (Uz (S:=fun b=>b=D) w3 ⟨D,2,U8⟩ (ag (f 2 r s).1) rfl)) (Q.trans (Uz (S:=fun b=>b=D\/b=ab) w3 ⟨D,2,U8⟩ (ag (f 2 r s).1) (.inl rfl))) fun X Y W=>?_
   go_wp2
   go_roundw
   case rel=>
    have h9:=adD ys;refine⟨2+1,Ph,Pt,?_,?_,W⟩
    .rw[h9];exact X.out
    rw[h9];exact Y.out
   case measure=>simp[VS]
 obtain rfl:k=3:=by omega
 refine P3 H I P fun V Z HF=>?_;go_wp2;go_end0
 exact⟨⟨_,rfl⟩,V,Z,HF⟩
end
def aiF(r i x t:Nat):Nat×Nat:=(abD (iY x (key r i)),iY t (abD (iY x (key r i))))
def aiB(b x t:Nat):Nat×Nat:=(iY x t,t)
def Kb{r}(u:r<8)(hi:i<3):key r i<=13831:=by
 unfold key;have h1:3*r+i+1<=24:=Ph;have c:(3*r+i+1)*(3*r+i+1)<=24*24:=Nat.mul_le_mul h1 h1;have A:(3*r+i+1)*(3*r+i+1)*(3*r+i+1)<=24*24*24:=Nat.mul_le_mul c h1;omega
def MK(r rb ab i x t:Nat)(u:r<8)(hi:i<3)(m:x<2^64)(D:t<2^64)(w)(h1:VX w rb 3 (Ti Tl r))(c:VX w ab 30 (ag t)):
  VB UB 106 #[Ti Tl i,ag x,UK (Ts ⟨rb,0,U8⟩),UK (Ts ⟨ab,0,U8⟩)] w (fun e B=>e=UO (ag (aiF r i x t).1)/\VX B ab 30 (ag (aiF r i x t).2)/\Fr (·=ab) w B):=by
 refine P1 (3*r+i+1) fun n hn=>have d:n<=24:=Ph;P1 (key r i) fun k o=>?_;have j:n*n*n+7=k:=by rw[<-o,<-hn];rfl
 have l:k<=13831:=by rw[<-o];exact Kb u hi
 have q2:n*n<=24*24:=Nat.mul_le_mul d d;have s:3*(r:Int)+(i:Int)+1=(n:Int):=Ph;have y:Tt.wrap ((n:Int)*(n:Int))=((n*n:Nat):Int):=Wy;have A:Tt.wrap (((n*n:Nat):Int)*(n:Int))=((n*n*n:Nat):Int):=Wy;have p:Tt.wrap (((n*n*n:Nat):Int)+7)=(k:Int):=QW;refine PG m D c s y A p fun H J z G F1 F I=>?_;unfold aiF;rw[o];have c1:=h1.cell;have c2:=c.cell;clear o j hn q2 s y A p h1 c m D;unfold ag at*;go_enter func106,ntmps106;go_upto_region 2 with fail;rw[G.out];have C:=l;go_wp2_with fail;rw[F1.out,F.out,I.out];refine(nT x k H Ph _).mono ?_;rintro e q⟨rfl,rfl⟩;go_wp2_with fail;refine(adI _ (cd (jL _ _)) _).mono ?_;rintro e q⟨rfl,rfl⟩;refine P1 (abD (iY x k)) fun v g=>have E:Hid (v<2^64):=Tn (by rw[<-g];exact cd (Nk _));have f:=Tn g;?_;rw[g];clear g;have K:=VQ q ab 0 _ _ z;go_wp2_with fail;refine(nT t v J E _).mono ?_;rintro e L⟨rfl,rfl⟩;go_wp2;go_ret;exact⟨by rw[f.out];rfl,by rw[f.out];exact Boxed.set _ z,Uz (S:=fun b=>b=ab) _ ⟨ab,0,U8⟩ _ rfl⟩
def aaB(ab i x t:Nat)(m:x<2^64)(d:t<2^64)(w)(c:VX w ab 30 (ag t)):
  VB UB 108 #[Ti Tl i,ag x,UK (Ts ⟨ab,0,U8⟩)] w (fun e b=>e=UO (ag (aiB i x t).1)/\VX b ab 30 (ag (aiB i x t).2)/\Fr (·=ab) w b):=by
 refine P3 m d c fun f g j=>have c2:=c.cell;?_;unfold aiB;unfold ag at*;go_enter func108,ntmps108;go_wp2_with fail;refine(nT x t f g _).mono ?_;rintro e l⟨rfl,rfl⟩;go_wp2;go_ret;exact⟨rfl,j,Z5 _ _⟩
def Ms{r:Nat}(u:r<8)(zs:rb≠ab):zW 106 #[UK (Ts ⟨rb,0,U8⟩),UK (Ts ⟨ab,0,U8⟩)] ab (fun W t=>VX W rb 3 (Ti Tl r)/\VX W ab 30 (ag t)) (aiF r) where
 enters:=Vv func106 Pg rfl
 small:=fun i x t _ _ _=>⟨cd (Nk _),cd (jL _ _)⟩
 does:=fun i x t W hi m b J=>(MK r rb ab i x t u hi m b W J.1 J.2).mono fun e c h=>⟨h.1,⟨h.2.2.boxed J.1 (fun e=>zs e),h.2.1⟩,h.2.2⟩
def ae8:zW 108 #[UK (Ts ⟨ab,0,U8⟩)] ab (fun W t=>VX W ab 30 (ag t)) aiB where
 enters:=Vv func108 Pg rfl
 small:=fun i x t _ _ b=>⟨cd (jL _ _),b⟩
 does:=fun i x t W _ m b J=>aaB ab i x t m b W J
def sN:∀(k r:Nat)(s:rX),fo (k+1) r s=af5 (r+k) (fo k r s)
 |0,r,s=>rfl
 |k+1,r,s=>by
  rw[fo,sN k (r+1) (af5 r s),fo];rw[show r+1+k=r+(k+1)from Ph]
def AD(s:rX)(x:s.a<2^64)(hb:s.b<2^64)(J:s.c<2^64)(w:UN):
  VB UB 38 #[UT #[ag s.a,ag s.b,ag s.c]] w (bM (UT #[ag (Fg s).a,ag (Fg s).b,ag (Fg s).c]) w):=by
 refine P3 x hb J fun HA HB HC=>?_;clear x hb J;refine P1 w.heap.size fun B y=>have a1:=Tn y;P1 (((w.alloc (Tq #[ag s.a,ag s.b,ag s.c] 112)).alloc (Tq #[Ti Tt 0,Ti Tt 0,Ti Tt 0] 112)).alloc (Tq #[Ti Tt ↑s.a,Ti Tt ↑s.b,Ti Tt ↑s.c] 198)) fun l T=>have al:Hid (aq w l):=Tn XV;?_
 have ac:Hid (kD l (B+1+1) s.a s.b s.c):=Tn (by
  rw[<-T,<-y];have:=UZ ((w.alloc (Tq #[ag s.a,ag s.b,ag s.c] 112)).alloc (Tq #[Ti Tt 0,Ti Tt 0,Ti Tt 0] 112)) (Tq #[Ti Tt ↑s.a,Ti Tt ↑s.b,Ti Tt ↑s.c] 198);rw[Ud,Ud]at this
  exact this)
 have G:Hid (l.heap[B+1]?=Ts (Tq #[Ti Tt 0,Ti Tt 0,Ti Tt 0] 112 (0,0))):=Tn (by
  rw[<-T,<-y];have:=UZ (w.alloc (Tq #[ag s.a,ag s.b,ag s.c] 112)) (Tq #[Ti Tt 0,Ti Tt 0,Ti Tt 0] 112);rw[Ud]at this
  exact(Below.heap_alloc _ _ _ Pm).trans this)
 go_enter func38,ntmps38;go_upto_region 3 with(fail);try rw[y,T]
 clear y T;go_loopw [7] (fun i wr=>∃k:Nat,k<=8/\i=Ti Tl k/\((fo k 0 s).a<2^64/\(fo k 0 s).b<2^64/\(fo k 0 s).c<2^64)/\kD wr (B+1+1) (fo k 0 s).a (fo k 0 s).b (fo k 0 s).c/\Fr (fun b=>b=B+1+1) l wr) (fun i _=>8-(VS i).toNat)
 case atStart=>exact⟨0,Ph,rfl,⟨HA,HB,HC⟩,ac,Z5 _ _⟩
 obtain⟨k,o,rfl,p,x,P⟩:=hrel;refine P3 x p P fun M f j=>have a3:B+1+1<wr.heap.size:=x.lt;?_;clear x p P;by_cases K:k<8
 .refine P1 ((wr.alloc (Tq #[Ti Tl k] 3)).alloc (Tq #[Ti Tt 0] 30)) fun I Y=>P1 wr.heap.size fun R E=>have D:aq wr I:=Rc;?_
  have X:Hid (VX I R 3 (Ti Tl k)):=Tn (by
   rw[<-Y,<-E]
   exact(Below.heap_alloc _ _ _ Pm).trans (UZ wr _))
  have a2:Hid (VX I (R+1) 30 (ag 0)):=Tn (by
   rw[<-Y,<-E];have:=UZ (wr.alloc (Tq #[Ti Tl k] 3)) (Tq #[Ti Tt 0] 30);rw[Ud]at this
   exact this)
  refine P4 (M.fr (Uh (S:=fun _=>False) D) (fun h=>h)) (j.trans (Uh D)) fun a4 a6=>have U:Hid (l.heap.size<=R):=Tn (by rw[<-E];exact j.out.size);have d:B+1+1≠R+1:=Ph;have m:B+1+1≠R:=Ph;?_;go_upto_region 6 with(fail);(try rw[E,Y]);clear Y E D a3;go_wp2_with fail;refine(Cf 106 _ (R+1) (B+1+1) _ (aiF k) (Ms (r:=k) (rb:=R) K Ph) d (fun A C t h P=>⟨P.boxed h.1 (fun e=>m e.symm),P.boxed h.2 (fun e=>d e.symm)⟩) _ _ _ 0 f.1 f.2.1 f.2.2 Pi _ a4 ⟨X,a2⟩).mono ?_;rintro e w3⟨⟨v,rfl⟩,z,⟨_,Q⟩,F⟩;refine P3 z Q F fun ah Z ad=>?_;clear z Q F;go_wp2_with fail;have N:=Dx (Ms (r:=k) (rb:=R) (ab:=R+1) K Ph) f.1 f.2.1 f.2.2 (t:=0) Pi 3;have W:=Tn N;clear N;refine(Cf 108 _ (R+1) (B+1+1) _ aiB ae8 d (fun A C t h P=>P.boxed h (fun e=>d e.symm)) _ _ _ _ W.1 W.2.1 W.2.2.1 W.2.2.2 _ ah Z).mono ?_;rintro e w4⟨⟨v2,rfl⟩,O,_,H⟩;refine P4 O ((a6.onto ad (fun i hi h=>S5)).onto H (fun i hi h=>S5)) fun ao an=>?_;clear O H;go_wp2_with fail;go_roundw
  case rel=>
   refine⟨k+1,Ph,Pt,?_,?_,an⟩
   .rw[sN];exact⟨cd (AW _ _).1,cd (AW _ _).2.1,cd (AW _ _).2.2⟩
   rw[sN,VY];exact ao.out
  case measure=>simp[VS];omega
 obtain rfl:k=8:=by omega
 obtain⟨c0,c1,c2⟩:=M.out.cells;have u:=(j.block (B+1) (UE.1 G).1 Ph).trans G;refine PL u fun f0 f1 f2=>PK u fun d0 d1 d2=>have a5:=Tn u;?_;clear u;go_wp2_with fail;refine PF wr (B+1) (Ti Tt ↑(fo 8 0 s).a) (Ti Tt ↑(fo 8 0 s).b) (Ti Tt ↑(fo 8 0 s).c) fun q g=>have L:(wr.setCell ⟨B+1,0,U8⟩ (Ti Tt ↑(fo 8 0 s).a)).heap[B+1]?=Ts (Tq #[Ti Tt ↑(fo 8 0 s).a,Ti Tt 0,Ti Tt 0] 112 (0,0)):=(VE wr (B+1) 0 _ _ _ a5).trans Pm;have h1:((wr.setCell ⟨B+1,0,U8⟩ (Ti Tt ↑(fo 8 0 s).a)).setCell ⟨B+1,1,U8⟩ (Ti Tt ↑(fo 8 0 s).b)).heap[B+1]?=Ts (Tq #[Ti Tt ↑(fo 8 0 s).a,Ti Tt ↑(fo 8 0 s).b,Ti Tt 0] 112 (0,0)):=(VE _ (B+1) 1 _ _ _ L).trans Pm;?_;have V:q.heap[B+1]?=Ts (Tq #[Ti Tt ↑(fo 8 0 s).a,Ti Tt ↑(fo 8 0 s).b,Ti Tt ↑(fo 8 0 s).c] 112 (0,0)):=by rw[<-g];exact(VE _ (B+1) 2 _ _ _ h1).trans Pm
 refine PK V fun q0 q1 q2=>?_
 have a0:Hid (aq w q):=Tn (by
  rw[<-g];have k1:=Uz (S:=fun b=>b=B+1) wr ⟨B+1,0,U8⟩ (Ti Tt ↑(fo 8 0 s).a) rfl;have k2:=Uz (S:=fun b=>b=B+1) (wr.setCell ⟨B+1,0,U8⟩ (Ti Tt ↑(fo 8 0 s).a)) ⟨B+1,1,U8⟩ (Ti Tt ↑(fo 8 0 s).b) rfl;have k3:=Uz (S:=fun b=>b=B+1) ((wr.setCell ⟨B+1,0,U8⟩ (Ti Tt ↑(fo 8 0 s).a)).setCell ⟨B+1,1,U8⟩ (Ti Tt ↑(fo 8 0 s).b)) ⟨B+1,2,U8⟩ (Ti Tt ↑(fo 8 0 s).c) rfl;have y:=a1.out;have am:=(Uh (S:=fun _=>False) al).onto j (fun i hi h=>Ph)
  exact(am.onto ((k1.trans k2).trans k3) (fun i hi h=>Ph)).ext (fun _ _ h=>h))
 rw[g];clear g L h1 V f0 f1 f2 d0 d1 d2 c0 c1 c2;refine VC (v:=UT #[ag (fo 8 0 s).a,ag (fo 8 0 s).b,ag (fo 8 0 s).c]) (by simp[Vo,results38,go_sem,q0,q1,q2]) rfl ⟨rfl,a0⟩
structure qO(base:Nat)(v:UV)(w:UN)(v':UV)(w':UN)(s:au):Prop where
 own:w'.ownsRow base 5 1 v' s.length (VH s)
 fr:Fr (fun b=>v.ownBlock=Ts b) w w'
 at_:∀b,v'.ownBlock=Ts b->v.ownBlock=Ts b\/w.heap.size<=b
def qO.refl{base}{s:au}(h:w.ownsRow base 5 1 v s.length (VH s)):qO base v w v w s:=⟨h,Z5 _ _,fun _ h=> .inl h⟩
def qO.trans{base c f}{s t:au}(h:qO base v w c f s)(k:qO base c f v2 d t):qO base v w v2 d t:=
 ⟨k.own,h.fr.onto k.fr (fun i hi e=>(h.at_ i e).resolve_right Ph),fun b hb=>by
  rcases k.at_ b hb with h1|h1
  .exact h.at_ b h1
  exact .inr (VG h.fr.size h1)⟩
def qO.app{base f}{s t:au}(h:qO base v w f c s){o:Obj}(hn:s.length+t.length=n)(r:d.ownsRow base 5 1 v2 n (VH s++VH t))(S:(c.alloc o).grownBy d f.ownBlock)(g:v2.ownBlock=f.ownBlock\/v2.ownBlock=Ts (c.alloc o).heap.size):qO base v w v2 d (s++t):=by
 refine h.trans ⟨by rw[Lib.byteCells_append,Uo,hn];exact r,(Fr.alloc _ c o).trans ((Fr.grown S).mono fun _ _ e=>e),fun b hb=>?_⟩;rcases g with e|e
 .exact .inl (by rw[<-e];exact hb)
 rw[e,Ud]at hb;exact .inr (by cases hb;omega)
def qO.ext{base f}{s:au}(h:qO base v w f c s)(g:aq A w)(hb:A.heap.size<=base)(d:∀b,v.ownBlock=Ts b->base<=b):aq A c:=
 ((Uh (S:=fun _=>False) g).onto h.fr (fun i hi e=>by have:=d i e;omega)).ext (fun _ _ h=>h)
def In(n m:Nat):(Ti Uy ((n:Int)/2^(8*m)%256))=Ti Uy ((VI (n/256^m)).toNat:Int):=by
 have h1:(VI (n/256^m)).toNat=n/256^m%256:=Pm;have c:(2:Int)^(8*m)=((256^m:Nat):Int):=by
  rw[show(256:Nat)=2^8 from Q8,<-Nat.pow_mul];simp
 rw[h1,c];congr 1
def lz:(UB.info? 5).map (fun i=>(i.zero,i.size,i.bytes))=Ts (Ts (Ti Uy 0),1,1):=Pg
def zU(base)(s:au)(v)(n k:Nat)(w:UN)(hn:n<2^64)(o:k<=8)(z:s.length<=70000000000000)(f:base<=w.heap.size)(A:w.ownsRow base 5 1 v s.length (VH s)):
  VB UB 139 #[v,ag n,Ti Tl k] w (fun e b=>∃B,e=UO B/\qO base v w B b (s++be k n)):=by
 obtain⟨i0,hi,q,l,p⟩:=WN lz;have D:=Tn A;go_enter func139,ntmps139;go_upto_region 2 with fail;go_loopw [0,2] (fun u i wr=>∃(m:Nat),m<=k/\i=Ti Tl ((m:Int)-1)/\∃t:au,s++be k n=t++be m n/\t.length<=s.length+8/\qO base v w u wr t) (fun _ i _=>(VS i+1).toNat)
 case atStart=>exact⟨k,UY _,rfl,s,rfl,Ph,qO.refl D⟩
 obtain⟨m,K,rfl,t,C,G,S⟩:=hrel;refine P4 C S fun r j=>?_;cases m with
 |zero=>
  have x:Hid (s++be k n=t):=Tn (by rw[r.out,be];simp);go_wp2;go_ret;exact⟨_,rfl,by rw[x.out];exact j.out⟩
 |succ m=>
  have am:((m+1:Nat):Int)-1=(m:Int):=Ph;have y:=Tn (In n m);have E:Hid (s++be k n=(t++[VI (n/256^m)])++be m n):=Tn (by rw[r.out,be];simp);have F:base<=wr.heap.size:=VG f j.fr.size;go_wp2_with (at_builtin;refine wpList_append_own_at _ rfl _ _ 37 rfl base 5 i0 (Ti Uy 0) 1 1 underlying37 hi q l p rfl Pi _ _ _ rfl (j.own.alloc _) ⟨wr.heap.size,0,U8⟩ 1 1 [Ti Uy ((n:Int)/2^(8*m)%256)] rfl rfl (d9 _ _ _) Pu Pr Ph Pp ?_;intro J H c d _ g)
  go_roundw
  case rel=>
   refine⟨m,Ph,Pt,t++[VI (n/256^m)],E,?_,?_⟩
   .have:=congrArg List.length r;rw[Uo,Uo,aI,aI]at this;rw[Uo,List.length_singleton];omega
   rw[y.out]at c;exact j.out.app (t:=[VI (n/256^m)]) rfl c d g
  case measure=>simp[VS]
def Hr(a b w):
  (Instr.index 56 (UT #[a,b]) (Ti Tl 0)).run UB w= .ok a w/\(Instr.index 56 (UT #[a,b]) (Ti Tl 1)).run UB w= .ok b w:=by
 have z:=underlying56;constructor<;>(unfold Instr.index;simp[run_underlying z,go_sem])
def By(s:nD):Nat->au
 |0=>[]
 |1=>be 8 s.1
 |_=>eq s
def B8(s:nD):∀k,(By s k).length<=16
 |0=>by simp[By]
 |1=>by simp[By,aI]
 |_+2=>Nat.le_of_eq (aT s)
def jY(s:nD)(w:UN)(h1:s.1<2^64)(c:s.2<2^64):
  VB UB 110 #[UT #[ag s.1,ag s.2]] w (fun e u=>∃v,e=UO v/\u.ownsRow w.heap.size 5 1 v 16 (VH (eq s))/\aq w u):=by
 refine P4 h1 c fun y x=>have k0:=fun w=>(Hr (ag s.1) (ag s.2) w).1;have A:=fun w=>(Hr (ag s.1) (ag s.2) w).2;?_;go_enter func110,ntmps110;go_upto_region 3 with fail;refine P1 w.heap.size fun B p=>P1 (w.alloc (Tq #[ag s.1,ag s.2] 56)) fun t T=>have m:Hid (aq w t):=Tn QA;have l:=Tn p;?_;rw[T,p];go_loopw [3,7] (fun v i wr=>∃k:Nat,k<=2/\i=Ti Tl k/\wr.ownsRow B 5 1 v (By s k).length (VH (By s k))/\aq w wr) (fun _ i _=>2-(VS i).toNat)
 case atStart=>exact⟨0,Ph,rfl,WO _ _ _ _,m⟩
 obtain⟨k,o,rfl,r,g⟩:=hrel;refine P3 r g (bE r) fun q ys j=>?_;have f:B<=wr.heap.size:=by have:=g.size;have:=l.out;omega
 obtain rfl|rfl|rfl:k=0\/k=1\/k=2:=Ph
 .go_wp2_with fail;refine(zU B (By s 0) _ s.1 8 _ y Ph (by have:=B8 s 0;omega) f q).mono ?_;rintro e z⟨v2,rfl,S⟩;have d:=Tn S;go_wp2;go_roundw
  case rel=>exact⟨1,Ph,Pt,d.own,d.ext ys Zal j⟩
  case measure=>simp[VS]
 .go_wp2_with fail;refine(zU B (By s 1) _ s.2 8 _ x Ph (by have:=B8 s 1;omega) f q).mono ?_;rintro e z⟨v2,rfl,S⟩;have d:=Tn S;go_wp2;go_roundw
  case rel=>exact⟨2,Ph,Pt,d.own,d.ext ys Zal j⟩
  case measure=>simp[VS]
 go_wp2;go_ret;exact⟨_,rfl,by have:=q.out;rw[show(By s 2).length=16 from aT s]at this;rw[l.out];exact this,ys⟩
def qb(n:Nat):List (Nat×Nat):=(We ((n+6)/7)).map fun j=>(7*j,min 7 (n-7*j))
def Nj(b c:Nat)(p:Nat×Nat):Array UV:=#[Tm (Ts ⟨b,c+p.1,U8⟩) p.2 p.2]
def iX(n):(qb n).length=(n+6)/7:=by simp[qb]
def wE(h:7*j<n):(qb n)[j]?=Ts (7*j,min 7 (n-7*j)):=by
 unfold qb;rw[VU,Yp Ph];rfl
def JZ(a n cap)(w:UN):
  VB UB 103 #[Tm a n cap,Ti Tl 7] w fun e b=>
   e=UO (.func (.func 173) #[] #[UK (Ts ⟨w.heap.size,0,U8⟩),UK (Ts ⟨w.heap.size+1,0,U8⟩)])/\b=(w.alloc (Tq #[Tm a n cap] 37)).alloc (Tq #[Ti Tl 7] 3):=by
 go_enter func103,ntmps103;exact U7
def Ez(a n cap b)(hn:n<=cap)(hn2:n<=4611686018427387904)(P O)(ha:0<n->a=Ts ⟨P,O,U8⟩)(C:WR->Prop)(E:¬C 37)(G:¬C 3):
  H4 UB 173 #[UK (Ts ⟨b,0,U8⟩),UK (Ts ⟨b+1,0,U8⟩)] (Nj P O) (qb n) C
   (fun W=>VX W b 37 (Tm a n cap)/\VX W (b+1) 3 (Ti Tl 7)):=by
 intro y S J Jx W z _ _ N A M L;refine callsIn_of_wp func173 rfl trivial ?_ rfl;simp only[ntmps173,WG,Up,VJ,VO,YI,WX,WY,XF,Wi,Vd,Vu];obtain⟨t,q⟩:=z;refine PC t q M L N fun X B1 HY H0 HJ=>?_;gi_wp2
 gi_loopw [4] (fun i wr=>∃j:Nat,7*j<n+7/\i=Ti Tl ((7*j:Nat):Int)/\VX wr b 37 (Tm a n cap)/\VX wr (b+1) 3 (Ti Tl 7)/\W.heap.size<=wr.heap.size/\J j wr) (fun i _=>n+7-(VS i).toNat)
 case atStart=>exact⟨0,Ph,rfl,X,B1,UY _,H0⟩
 obtain⟨j,Q,rfl,D,g1,r,f⟩:=hrel;refine P3 D g1 f fun G0 T d=>have d0:=D.cell;have d1:=g1.cell;?_;by_cases R:7*j<n
 .obtain rfl:=ha Ph;refine P1 (7*j) fun i hi=>have F:=Tn hi;have u:=wE R;P1 (min 7 (n-7*j)) fun m K=>?_;rw[K,hi]at u;rw[hi]at K R Q⊢;have hmb:i+m<=n/\0<m:=Ph;gi_wp2
  have am:min (7:Int) ((n-i:Nat):Int)=(m:Int):=Ph;have x:=Tn (HJ _ _ _ d (St.of_ext ((Xg (fun _=>False) wr).ext (fun _ _ h=>h))));obtain⟨fn,tmps,assign,body,U,I⟩:=HY.out j _ wr.drew u x r;have Z:=Tn I;unfold Nj at U;dsimp only at U;refine P4 ((Xg (fun _=>False) wr).boxed G0 (fun h=>h)) ((Xg (fun _=>False) wr).boxed T (fun h=>h)) fun s p=>have Y:=s.out.cell;have V:=p.out.cell;?_;gi_region_with (fail)
  all_goals
   gi_wp2
   refine⟨QS,Z.mono ?_⟩
   rintro e' W'(⟨rfl,g,c⟩|⟨rfl,o,_⟩)
   .refine P3 (c.boxed s E (fun h=>h)) (c.boxed p G (fun h=>h)) g fun K0 H KJ=>have l:W.heap.size<=W'.heap.size:=VG r c.size;have z1:=H.out.cell;?_;gi_wp2
    go_roundw
    case rel=>exact⟨j+1,by have:=F.out;omega,by have:=F.out;first|(congr 1;omega)|go_num,K0,H,l,KJ⟩
    case measure=>simp[VS];omega
   gi_wp2
   exact VC (results_none (fn:=f173) rfl _ _ _) rfl ⟨⟨_,rfl⟩,.inr ⟨j+1,by rw[iX];have:=F.out;omega,o⟩⟩
 have B:j=(n+6)/7:=by omega
 gi_wp2
 go_end0
 exact⟨⟨_,rfl⟩,.inl (by rw[iX,<-B];exact d.out)⟩
section
def sv(q Y:Nat):q*Y=q*(Y/4294967296)*4294967296+q*(Y%4294967296):=by
 rw[Nat.mul_assoc,<-Nat.mul_add,Nat.mul_comm (Y/4294967296),Nat.div_add_mod]
def ahE{U u Y q r:Nat}(b:0<Y)(d:U<Y)(X:u<4294967296)(hi:U=q*(Y/4294967296)+r)(c:4294967296<=q\/4294967296*r+u<q*(Y%4294967296)):(U*4294967296+u)/Y<q:=by
 rcases c with h|h
 .have:(U*4294967296+u)/Y<4294967296:=by
   exact Zcs
  omega
 rw[Nat.div_lt_iff_lt_mul b,sv q Y];omega
def ae0{U u Y q r:Nat}(b:0<Y)(hi:U=q*(Y/4294967296)+r)(c:q*(Y%4294967296)<=4294967296*r+u):q<=(U*4294967296+u)/Y:=by
 rw[Nat.le_div_iff_mul_le b,sv q Y];omega
def aaT{U Y:Nat}(d:9223372036854775808<=Y)(b:Y<2^64)(c:U<Y):U/(Y/4294967296)<=4294967297:=by
 have h1:2147483648<=Y/4294967296:=Ph;have:U/(Y/4294967296)<4294967298:=by
  rw[Nat.div_lt_iff_lt_mul Ph];omega
 omega
structure At(U u Y q r:Nat):Prop where
 inv:U=q*(Y/4294967296)+r
 ge:(U*4294967296+u)/Y<=q
 le:q<=4294967297
 small:r<4294967296
variable {U u Y q r:Nat}
def At.first(d:9223372036854775808<=Y)(b:Y<2^64)(f:U<Y)(X:u<4294967296):At U u Y (U/(Y/4294967296)) (U%(Y/4294967296)):=by
 have h1:2147483648<=Y/4294967296/\Y/4294967296<4294967296:=Ph;refine⟨(YJ U _).symm,?_,aaT d b f,WF (Wf _ Ph) h1.2⟩;rw[<-Nat.lt_succ_iff,Nat.div_lt_iff_lt_mul Ph];have c:=sv (U/(Y/4294967296)).succ Y;rw[c];have A:=YJ U (Y/4294967296);have j:=Wf U (show 0<Y/4294967296 from Ph);have g:U+1<=(U/(Y/4294967296)).succ*(Y/4294967296):=by rw[Nat.succ_mul];omega
 have:=Nat.mul_le_mul_right 4294967296 g;omega
def At.step(h:At U u Y q r)(g:9223372036854775808<=Y)(b:U<Y)(X:u<4294967296)(f:4294967296<=q\/4294967296*r+u<q*(Y%4294967296)):
  0<q/\(U*4294967296+u)/Y<=q-1/\U=(q-1)*(Y/4294967296)+(r+Y/4294967296)/\q-1<=4294967296:=by
 have h1:=ahE Ph b X h.inv f;have c:=h.le;refine P1 ((U*4294967296+u)/Y) fun d y=>?_;rw[y]at h1⊢;refine⟨Ph,Ph,?_,Ph⟩;obtain⟨k,rfl⟩:∃k,q=k+1:=⟨q-1,Ph⟩;have:=h.inv;rw[Nat.succ_mul]at this;rw[Nat.add_sub_cancel];omega
def At.next(h:At U u Y q r)(b:9223372036854775808<=Y)(d:U<Y)(X:u<4294967296)(f:4294967296<=q\/4294967296*r+u<q*(Y%4294967296))(g:r+Y/4294967296<4294967296):
  At U u Y (q-1) (r+Y/4294967296):=by
 obtain⟨_,c,A,j⟩:=h.step b d X f;exact⟨A,c,Ph,g⟩
def At.last(h:At U u Y q r)(b:9223372036854775808<=Y)(d:U<Y)(X:u<4294967296)(f:4294967296<=q\/4294967296*r+u<q*(Y%4294967296))(l:4294967296<=r+Y/4294967296):
  q-1=(U*4294967296+u)/Y:=by
 obtain⟨_,c,A,g⟩:=h.step b d X f;refine Nat.le_antisymm (ae0 Ph A ?_) c;have j:(q-1)*(Y%4294967296)<=4294967296*4294967295:=Nat.mul_le_mul g Ph;omega
def At.done(h:At U u Y q r)(b:9223372036854775808<=Y)(c:¬(4294967296<=q\/4294967296*r+u<q*(Y%4294967296))):q=(U*4294967296+u)/Y:=
 Nat.le_antisymm (ae0 Ph h.inv Ph) h.ge
def At.prod(h:At U u Y q r):q*(Y%4294967296)<2^64:=by
 have b:q*(Y%4294967296)<=4294967297*4294967295:=Nat.mul_le_mul h.le Ph;omega
def aa3{Q:Nat}(b:0<Y)(f:Y<2^64)(d:Q=(U*4294967296+u)/Y):
  (((U*4294967296:Nat):Int)+(u:Int)-((Q*Y:Nat):Int))%2^64=(((U*4294967296+u)%Y:Nat):Int):=by
 have h1:=YJ (U*4294967296+u) Y;rw[<-d]at h1;have c:=Wf (U*4294967296+u) b;omega
def MO(b:0<Y)(c:U<Y)(X:u<4294967296):(U*4294967296+u)/Y<4294967296:=by
 exact Zcs
def akD{v:Nat}(b:0<Y):((U*4294967296+u)*4294967296+v)/Y=(U*4294967296+u)/Y*4294967296+((U*4294967296+u)%Y*4294967296+v)/Y/\((U*4294967296+u)*4294967296+v)%Y=((U*4294967296+u)%Y*4294967296+v)%Y:=by
 refine P1 (U*4294967296+u) fun n hn=>?_;rw[hn];have h1:=YJ n Y;refine P1 4294967296 fun B d=>?_;rw[d];have c:n*B+v=(n%Y*B+v)+n/Y*B*Y:=by
  have:n*B=n/Y*B*Y+n%Y*B:=by
   rw[Nat.mul_right_comm,<-ZC,h1]
  omega
 rw[c,Nat.add_mul_div_right _ (n/Y*B) b,Nat.add_mul_mod_self_right];exact⟨Nat.add_comm _ _,rfl⟩
def adE(n y s:Nat):(n*2^s)/(y*2^s)=n/y/\(n*2^s)%(y*2^s)/2^s=n%y:=by
 have h:=Nat.two_pow_pos s;refine⟨Nat.mul_div_mul_right _ _ h,?_⟩;rw[Nat.mul_mod_mul_right,Nat.mul_div_cancel _ h]
end
def lE{x}(m:x<2^64)(L:x≠0):1<=Yd x/\Yd x<=64/\2^(Yd x-1)<=x/\x<2^Yd x:=by
 have h:=Lib.bitLenAux_bounds 64 x m L;exact⟨h.1,Lib.bitLen_le x 64 Pi m,h.2.1,h.2.2⟩
def uf{x}(m:x<2^64):Yd x=kP x:=by
 unfold kP;by_cases L:x=0
 .subst L;rfl
 rw[if_neg L];obtain⟨h1,_,c,A⟩:=lE m L;obtain⟨k,o⟩:∃k,Yd x=k+1:=⟨Yd x-1,Ph⟩;rw[o]at c A⊢;rw[Nat.add_sub_cancel]at c;have a1:=(Nat.le_log2 L).2 c;have a2:=(Nat.log2_lt L).2 A;omega
def D8(U:y<2^64)(L:y≠0):9223372036854775808<=y*2^(64-Yd y)/\y*2^(64-Yd y)<2^64:=by
 obtain⟨h1,c,A,b⟩:=lE U L;obtain⟨k,o⟩:∃k,Yd y=k+1:=⟨Yd y-1,Ph⟩;rw[o]at c A b⊢;rw[Nat.add_sub_cancel]at A;have x:=Nat.two_pow_pos (64-(k+1));have am:2^k*2^(64-(k+1))=9223372036854775808:=by rw[<-Nat.pow_add,show k+(64-(k+1))=63 from Ph]
 have d:2^(k+1)*2^(64-(k+1))=2^64:=by rw[<-Nat.pow_add,show k+1+(64-(k+1))=64 from Ph]
 have a1:=Nat.mul_le_mul_right (2^(64-(k+1))) A;have a2:=Nat.mul_lt_mul_of_pos_right b x;omega
def adW(b y)(p:b<2^64)(U:y<2^64)(L:0<y)(w:UN):
  VB UB 138 #[ag 0,ag b,ag y] w (bM (UW #[ag (b/y),ag (b%y)]) w):=by
 unfold ag bM;have am:Tt.wrap ((b:Int)/(y:Int))=((b/y:Nat):Int):=by
  have:b/y<=b:=Nat.div_le_self _ _;refine P1 (b/y) fun q N=>?_;rw[show(b:Int)/(y:Int)=((b/y:Nat):Int)from Pm,N,gu Ph Ph]
 have c:(b:Int)%(y:Int)=((b%y:Nat):Int):=Pm;refine P4 am c fun d f=>have j:((y:Int)==0)=false:=Pp;have g:decide ((y:Int)<=0)=false:=Pp;?_;clear am c;go_enter func138,ntmps138;go_wp2;go_quiet (fail)
 go_wp2_with fail;rw[d.out,f.out];go_ret2
 exact⟨rfl,pq P0 _⟩
def KY(hi b s:Nat):(hi*2^64+b)*2^s=hi*2^s*2^64+b*2^s:=by
 rw[ZC,Nat.mul_right_comm]
def Nt{a s:Nat}(h:a*2^s<2^64):Tt.wrap ((a:Int)*2^s)=((a*2^s:Nat):Int):=by
 have e:(a:Int)*2^s=((a*2^s:Nat):Int):=XJ;rw[e,gu Ph Ph]
def adB(a s:Nat):Tt.wrap ((a:Int)*2^s)=((a*2^s%2^64:Nat):Int):=by
 have e:(a:Int)*2^s=((a*2^s:Nat):Int):=XJ;rw[e,IntKind.wrap_u64];omega
def afB(b:Nat){s:Nat}(z:s<=64):b*2^s=b/2^(64-s)*2^64+b*2^s%2^64:=by
 have e:(2^64:Nat)=2^(64-s)*2^s:=by rw[<-Nat.pow_add,show 64-s+s=64 from Ph]
 have h1:=YJ (b*2^s) (2^64);have c:b*2^s/2^64=b/2^(64-s):=by
  rw[e,Nat.mul_div_mul_right _ _ (Nat.two_pow_pos s)]
 rw[c]at h1;exact h1.symm
def Ng{b s:Nat}(p:b<2^64)(z:s<=64):b/2^(64-s)<2^s:=by
 rw[Nat.div_lt_iff_lt_mul (Nat.two_pow_pos _),<-Nat.pow_add,show s+(64-s)=64 from Ph];exact p
def ac7{d s:Nat}(p:d<2^64)(z:s<=64)(hb:hi*2^s<2^64):
  bits .or Tt (Tt.wrap ((hi:Int)*2^s)) ((d:Int)/2^(64-s))=((hi*2^s+d/2^(64-s):Nat):Int):=by
 have h1:=Ng p z;have c:(d:Int)/2^(64-s)=((d/2^(64-s):Nat):Int):=by
  rw[Int.natCast_ediv,Int.natCast_pow];rfl
 have A:d/2^(64-s)<=d:=Nat.div_le_self _ _;have h:=bits_or_u64_nat (hi*2^s) (d/2^(64-s)) hb Ph;have e:=Nat.shiftLeft_add_eq_or_of_lt (i:=s) (b:=d/2^(64-s)) h1 hi;rw[Nat.shiftLeft_eq]at e;rw[<-e]at h;rw[Nt hb,c];exact h
def O3{a:Nat}(b:a<2^64):bits .and Tt (a:Int) 4294967295=((a%4294967296:Nat):Int):=by
 have h:=bits_and_u64_nat a 4294967295 b Ph;have e:a&&&4294967295=a%4294967296:=Nat.and_two_pow_sub_one_eq_mod a 32;rw[e]at h;exact h
def Cc{a:Nat}(b:a<2^64):Tt.wrap (a:Int)=(a:Int):=gu Ph Ph
def acN(a b:Nat)(h:a*b<2^64):Tt.wrap ((a:Int)*(b:Int))=((a*b:Nat):Int):=by
 rw[<-Int.natCast_mul,Cc h]
def afJ{a b:Nat}(h:b<=a)(c:a<2^64):Tt.wrap ((a:Int)-(b:Int))=((a-b:Nat):Int):=by
 rw[gu Ph Ph];omega
def aeT{u Q R:Nat}(c:0<Y)(b:Y<2^64)(f:Q=(U*4294967296+u)/Y)(d:(U*4294967296+u)%Y=R):
  Tt.wrap (Tt.wrap (Tt.wrap ((U:Int)*4294967296)+(u:Int))-Tt.wrap ((Q:Int)*(Y:Int)))=(R:Int):=by
 have h:=aa3 c b f;rw[d]at h;rw[<-Int.natCast_mul];refine P1 (Q*Y) fun p x=>?_;rw[x]at h⊢;simp only[IntKind.wrap_u64];omega
def At.walk{u r:Nat}(h:At U u Y q r)(X:u<4294967296):
  Tt.wrap ((q:Int)*((Y%4294967296:Nat):Int))=((q*(Y%4294967296):Nat):Int)/\Tt.wrap (4294967296*(r:Int))=((4294967296*r:Nat):Int)/\Tt.wrap (((4294967296*r:Nat):Int)+(u:Int))=((4294967296*r+u:Nat):Int)/\q*(Y%4294967296)<2^64:=by
 have:=h.prod;have:=h.small;refine⟨acN _ _ h.prod,?_,?_,h.prod⟩
 .rw[gu Ph Ph];omega
 rw[gu Ph Ph];omega
def adX(hi F y)(hh:0<hi)(hhy:hi<y)(hl:F<2^64)(hy:y<2^64)(w:UN):
  VB UB 138 #[ag hi,ag F,ag y] w (jO (UW #[ag ((hi*2^64+F)/y),ag ((hi*2^64+F)%y)]) w):=by
 unfold ag jO;obtain⟨l1,l2,l3,l4⟩:=lE hy Ph;obtain⟨n1,n2⟩:=D8 hy Ph;refine P1 (Yd y) fun L hL=>have HLL:=Tn hL;?_;rw[hL]at l1 l2 l3 l4 n1 n2;have t1:((y:Int)==0)=false:=Pp;have t2:decide ((y:Int)<=(hi:Int))=false:=Pp;have t3:((hi:Int)==0)=false:=Pp;clear hL;go_enter func138,ntmps138;go_wp2_with fail;refine(bits_LeadingZeros64 y _ Ph Ph).mono ?_;rintro e w1⟨rfl,rfl⟩;rw[XU,HLL.out];refine P1 (64-L) fun s z=>have hs2:(64:Int)-(L:Int)=(s:Int):=Ph;?_;rw[hs2];rw[z]at n1 n2;have hsb:s<=63:=Ph;refine P1 (y*2^s) fun Y hY=>have x:=Nat.two_pow_pos s;?_;have hiY:hi*2^s+2^s<=Y:=by rw[<-hY,<-Nat.succ_mul];exact Nat.mul_le_mul_right _ hhy
 refine P3 (Nt (a:=y) (s:=s) n2) (ac7 (hi:=hi) (s:=s) hl Ph Ph) (adB F s) fun EY EU EV=>have HN:=KY hi F s;?_;rw[afB F (s:=s) Ph,<-Nat.add_assoc,<-ZC]at HN;have G:hi*2^s+F/2^(64-s)<Y:=by have:=Ng (s:=s) hl Ph;omega
 have HQ:=adE (hi*2^64+F) y s;rw[HN]at HQ;refine P1 (hi*2^s+F/2^(64-s)) fun U hU=>P1 (F*2^s%2^64) fun V hV=>?_;have hVb:V<2^64:=by rw[<-hV];exact Wf _ Pi
 rw[hY]at EY HQ n1 n2;rw[hU]at EU HQ G;rw[hV]at EV HQ;have HQQ:=Tn HQ;clear hU hV hY z x;refine P1 (V/4294967296) fun H hu1=>P1 (V%4294967296) fun J hu0=>have hV2:V=H*4294967296+J:=Ph;have l:H<4294967296:=Ph;have j:J<4294967296:=Ph;P4 (show(V:Int)/4294967296=(H:Int)from Ph) (show bits .and Tt (V:Int) 4294967295=(J:Int) by rw[O3 hVb,hu0]) fun EV1 EV0=>P1 (Y/4294967296) fun f hy1=>P5 (show(Y:Int)/4294967296=(f:Int)from Ph) (O3 n2) hV2 hy1 fun EY1 EY0 HV2 E=>have hy1b:2147483648<=f/\f<4294967296:=Ph;have A1:=At.first n1 n2 G l;P1 (U/f) fun q1 hq1=>P1 (U%f) fun r1 M=>have EQ1:=Tn (show(U:Int)/(f:Int)=(q1:Int) by rw[<-hq1];simp);have P:=YJ U f;?_;rw[hy1,hq1,M]at A1;rw[hq1,M]at P;refine P3 (acN q1 f Ph) (show Tt.wrap ((U:Int)-((q1*f:Nat):Int))=(r1:Int)from Sa) A1 fun EP1 ER1 HA1=>P1 (Y%4294967296) fun y0 hy0=>?_;rw[hy0]at EY0;have HY0':=Tn hy0;have hy0b:y0<4294967296:=Ph;have hub:U<2^64:=Ph;clear hu1 hu0 hV2 hy1 hq1 M hy0;go_upto_region 9 with fail;rw[EY.out];go_upto_region 10 with fail;rw[EY1.out];go_upto_region 11 with fail;rw[EY0.out];go_upto_region 12 with fail;rw[EU.out];go_upto_region 13 with fail;rw[EV.out];go_upto_region 14 with fail;rw[EV1.out];go_upto_region 15 with fail;rw[EV0.out];go_upto_region 16 with fail;rw[EQ1.out];go_upto_block 0 with fail
 rw[Cc (a:=q1) (by have:=HA1.out.le;omega),EP1.out,ER1.out];go_cut [15] (fun a wx=>a=Ti Tt (((U*4294967296+H)/Y:Nat):Int)/\wx=w1)
 case first=>
  go_wp2;go_loopw [15,16] (fun a b wx=>∃q r:Nat,a=Ti Tt q/\b=Ti Tt r/\wx=w1/\At U H Y q r) (fun a _ _=>(VS a).toNat)
  case atStart=>exact⟨q1,r1,rfl,rfl,rfl,HA1⟩
  obtain⟨q,r,rfl,rfl,rfl,hA⟩:=hrel;have W:=hA.walk l;have HA:=Tn hA;have hql:=hA.le;have hrs:=hA.small;refine P1 (q*(Y%4294967296)) fun p x=>P1 (4294967296*r) fun m K=>P1 (m+H) fun n hn=>P1 (r+f) fun g C=>have S:Tt.wrap ((r:Int)+(f:Int))=(g:Int):=QW;?_;rw[x,K,hn,HY0'.out]at W;refine P3 W.1 W.2.1 W.2.2.1 fun t I O=>have hpb:=W.2.2.2;P4 S C fun o HRN=>?_;have htt:(4294967296<=q\/4294967296*r+H<q*(Y%4294967296))↔(4294967296<=q\/n<p):=by rw[x,K,hn]
  have B:=Tn htt;have hnb:n<2^64:=Ph;have hrb:g<8589934592:=Ph;have hr3:g<4294967296↔r+f<4294967296:=by rw[C]
  have HR3:=Tn hr3;clear x K hn C;by_cases d:4294967296<=q\/n<p
  .have T:=HA.out.step n1 G l (B.2 d);have hq0:=T.1;refine P1 (q-1) fun D N=>P4 (show Tt.wrap ((q:Int)-1)=(D:Int)from QW) N fun A Z=>have hqnb:D<=4294967296:=Ph;have hqlt:D<q:=Ph;?_;clear N;by_cases c3:g<4294967296
   .have c:=HA.out.next n1 G l (B.2 d) Zfv;exact TA
   have c:=HA.out.last n1 G l (B.2 d) Rh;exact TJ
  exact Tb
 obtain⟨rfl,rfl⟩:=hcut;refine P1 ((U*4294967296+H)/Y) fun Q hQ=>P1 ((U*4294967296+H)%Y) fun R hR=>?_;have hQb:Q<4294967296:=by rw[<-hQ];exact MO Ph G l
 have hRY:R<Y:=by rw[<-hR];exact Wf _ Ph
 refine P3 (aeT Ph n2 hQ.symm hR) hQ hR fun EUN HQ1 HR1=>?_;rw[hQ];clear hQ hR;have A2:=At.first n1 n2 hRY j;refine P1 (R/f) fun q2 hq2=>P1 (R%f) fun r2 hr2=>have EQ2:=Tn (show(R:Int)/(f:Int)=(q2:Int) by rw[<-hq2];simp);have P:=YJ R f;?_;rw[E.out,hq2,hr2]at A2;rw[hq2,hr2]at P;refine P3 (acN q2 f Ph) (show Tt.wrap ((R:Int)-((q2*f:Nat):Int))=(r2:Int)from Sa) A2 fun EP2 ER2 HA2=>?_;clear hq2 hr2;go_upto_region 22 with fail;rw[EUN.out];go_upto_region 23 with fail;rw[EQ2.out];go_upto_block 2 with fail
 rw[Cc (a:=q2) (by have:=HA2.out.le;omega),EP2.out,ER2.out];go_cut [18] (fun a wx=>a=Ti Tt (((R*4294967296+J)/Y:Nat):Int)/\wx=wc)
 case first=>
  go_wp2;go_loopw [18,16] (fun a b wx=>∃q r:Nat,a=Ti Tt q/\b=Ti Tt r/\wx=wc/\At R J Y q r) (fun a _ _=>(VS a).toNat)
  case atStart=>exact⟨q2,r2,rfl,rfl,rfl,HA2⟩
  obtain⟨q,r,rfl,rfl,rfl,hA⟩:=hrel;have W:=hA.walk j;have HA:=Tn hA;have hql:=hA.le;have hrs:=hA.small;refine P1 (q*(Y%4294967296)) fun p x=>P1 (4294967296*r) fun m K=>P1 (m+J) fun n hn=>P1 (r+f) fun g C=>have S:Tt.wrap ((r:Int)+(f:Int))=(g:Int):=QW;?_;rw[x,K,hn,HY0'.out]at W;refine P3 W.1 W.2.1 W.2.2.1 fun t I O=>have hpb:=W.2.2.2;P4 S C fun o HRN=>?_;have htt:(4294967296<=q\/4294967296*r+J<q*(Y%4294967296))↔(4294967296<=q\/n<p):=by rw[x,K,hn]
  have B:=Tn htt;have hnb:n<2^64:=Ph;have hrb:g<8589934592:=Ph;have hr3:g<4294967296↔r+f<4294967296:=by rw[C]
  have HR3:=Tn hr3;clear x K hn C;by_cases d:4294967296<=q\/n<p
  .have T:=HA.out.step n1 hRY j (B.2 d);have hq0:=T.1;refine P1 (q-1) fun D N=>P4 (show Tt.wrap ((q:Int)-1)=(D:Int)from QW) N fun A Z=>have hqnb:D<=4294967296:=Ph;have hqlt:D<q:=Ph;?_;clear N;by_cases c3:g<4294967296
   .have c:=HA.out.next n1 hRY j (B.2 d) Zfv;exact TA
   have c:=HA.out.last n1 hRY j (B.2 d) Rh;exact TJ
  exact Tb
 obtain⟨rfl,rfl⟩:=hcut;refine P1 ((R*4294967296+J)/Y) fun Q0 X=>P1 ((R*4294967296+J)%Y) fun R0 hR0=>?_;have hQ0b:Q0<4294967296:=by rw[<-X];exact MO Ph hRY j
 have EUN2:=Tn (aeT Ph n2 X.symm hR0);have hT:=akD (U:=U) (u:=H) (v:=J) (show 0<Y from Ph);rw[HQ1.out,HR1.out,X,hR0]at hT;have hfin:=HQQ.out;have hV3:=HV2.out;rw[show U*2^64+V=(U*4294967296+H)*4294967296+J from Ph,hT.1,hT.2]at hfin;have HFIN:=Tn hfin;rw[X];clear X hR0;go_wp2_with fail;rw[EUN2.out];have am:(Q:Int)*4294967296+(Q0:Int)=(((hi*2^64+F)/y:Nat):Int):=by
  rw[<-HFIN.out.1];omega
 have e2:(R0:Int)/2^s=(((hi*2^64+F)%y:Nat):Int):=by
  rw[<-HFIN.out.2,Int.natCast_ediv,Int.natCast_pow];rfl
 rw[am,e2];go_ret2
 exact⟨rfl,rfl⟩
def yM(hi c y)(d:hi<y)(p:c<2^64)(U:y<2^64)(w:UN):
  VB UB 138 #[ag hi,ag c,ag y] w (bM (UW #[ag ((hi*2^64+c)/y),ag ((hi*2^64+c)%y)]) w):=by
 by_cases L:hi=0
 .subst L;rw[Yx,VY];exact adW c y p U d w
 refine(adX hi c y Ph d p U w).mono ?_;rintro e b⟨rfl,rfl⟩;exact⟨rfl,P0⟩
def Ib(hi b y:Nat):(hi%y*2^64+b)%y=(hi*2^64+b)%y:=by
 rw[Nat.add_mod,Nat.mul_mod,Nat.mod_mod,<-Nat.mul_mod,<-Nat.add_mod]
def yB(hi c y)(f:hi<2^64)(p:c<2^64)(U:y<2^64)(L:0<y)(w:UN):
  VB UB 201 #[ag hi,ag c,ag y] w (bM (ag ((hi*2^64+c)%y)) w):=by
 rw[<-Ib];unfold bM ag;have E:=Tn (show(hi:Int)%(y:Int)=((hi%y:Nat):Int)from Pm);have K:=Wf hi L;refine P1 (hi%y) fun m b=>?_;rw[b]at E K⊢;have j:((y:Int)==0)=false:=Pp;go_enter func201,ntmps201;go_wp2_with fail;rw[E.out];exact P2 (yM m c y K p U _) fun d g=>TS
def LH(x y c:Nat)(J:c<=1)(w):
  (Wu 137 #[Ti Tt (x:Int),Ti Tt (y:Int),Ti Tt (c:Int)]).run UB w=
   .ok (.value (UW #[Ti Tt (((x+y+c)%2^64:Nat):Int),Ti Tt (((x+y+c)/2^64:Nat):Int)])) w:=by
 rw[run_callFunc_extern func137 Pg Pg Pg (e:=add64Entry) Pg,run_add64 x y c Ph Ph Ph Ph];simp only[Result.andThen];congr 5<;>omega
def u7(x y:Nat)(w):
  (Wu 137 #[Ti Tt (x:Int),Ti Tt (y:Int),Ti Tt 0]).run UB w=
   .ok (.value (UW #[Ti Tt (((x+y)%2^64:Nat):Int),Ti Tt (((x+y)/2^64:Nat):Int)])) w:=LH x y 0 Pi w
def jk(m a b)(K:m<2^64)(L:0<m)(c:a<2^64)(hb:b<2^64)(w:UN):
  VB UB 141 #[ag m,ag a,ag b] w (bM (ag (a*b%m)) w):=by
 refine P5 K L c hb fun j o l f=>?_
 have d:=Tn (show a*b/2^64<2^64 by
  rw[Nat.div_lt_iff_lt_mul Pi]
  exact Nat.mul_lt_mul'' c hb)
 have Z:=Tn (YJ (a*b) (2^64));unfold bM ag;go_enter func141,ntmps141;go_wp2_with fail;refine(bits_Mul64 a b l f _).mono ?_;rintro e p⟨rfl,rfl⟩;go_wp2_with fail;refine P2 (yB _ _ m d (Wf _ Pi) j o _) fun q g=>?_;rw[Z.out];exact TS
def L8(p b:Nat):(p/2^64+(p%2^64+b)/2^64)*2^64+(p%2^64+b)%2^64=p+b:=Ph
def agI(a b m:Nat):(a%m+b%m)%m=(a+b)%m:=by rw[<-Nat.add_mod]
def te(m a b)(K:m<2^64)(L:0<m)(w:UN):
  VB UB 140 #[ag m,ag a,ag b] w (bM (ag ((a+b)%m)) w):=by
 rw[<-agI];refine P4 K L fun t s=>have o:=Wf a L;have hb:=Wf b L;P4 (show(a:Int)%(m:Int)=((a%m:Nat):Int)from Pm) (show(b:Int)%(m:Int)=((b%m:Nat):Int)from Pm) fun q l=>P1 (a%m) fun x p=>P1 (b%m) fun y U=>?_;rw[p]at o q⊢;rw[U]at hb l⊢;have u:((m:Int)==0)=false:=Pp;have f:=fun w=>u7 x y w;have Z:=YJ (x+y) (2^64);have d:=Wf (x+y) (show 0<2^64 from Pi);refine P1 ((x+y)%2^64) fun n hn=>P1 ((x+y)/2^64) fun c J=>have r:c<=1:=Ph;?_;simp only[hn,J]at f;rw[hn,J]at Z;rw[hn]at d;replace Z:=Tn Z
 have j:=Tn d;have am:=q.out;have z:=l.out;clear p U hn J;unfold bM ag;go_enter func140,ntmps140;go_wp2;go_quiet (fail)
 go_wp2_with fail;refine P2 (yB c n m Ph j t s _) fun A g=>?_;rw[Z.out];have ys:=Tn g;go_wp2;go_ret;exact⟨rfl,aa (pq P0 _) ys⟩
def uC(s:nD)(m)(h1:s.1<2^64)(B:s.2<2^64)(K:m<2^64)(L:0<m)(w:UN):
  VB UB 71 #[UT #[ag s.1,ag s.2],ag m] w (bM (ag (jh s m)) w):=by
 have y:=Tn (show jh s m=(s.1*2305843009213693952+s.2)%m by unfold jh;rw[if_neg Ph]);rw[y.out];obtain⟨a,b⟩:=s;dsimp only at h1 B⊢;refine P1 (a*2305843009213693952) fun p x=>?_;rw[x];refine P1 (p/2^64) fun hi f=>P1 (p%2^64) fun j d=>have C:hi<2305843009213693952:=Ph;have z:j<2^64:=Ph;have l:=fun w=>u7 j b w;P1 ((j+b)%2^64) fun n hn=>P1 ((j+b)/2^64) fun c J=>?_;simp only[hn,J]at l;have u:c<=1:=Ph;have q:n<2^64:=Ph;have o:=L8 p b;rw[f,d,hn,J]at o;replace o:=Tn o
 refine PG (show((hi:Int)+(c:Int))%(m:Int)=(((hi+c)%m:Nat):Int) by rw[Int.natCast_emod,Int.natCast_add]) (Wf (hi+c) L) h1 K f d x fun E A F G t r D=>have I:((m:Int)==0)=false:=Pp;?_;unfold bM ag;go_enter func71,ntmps71;go_wp2_with fail;refine(bits_Mul64 a 2305843009213693952 F Pi _).mono ?_;rintro e H⟨rfl,rfl⟩;rw[D.out,t.out,r.out];go_wp2_with fail;rw[E.out];refine P2 (yM _ n m A q G _) fun M g=>?_;rw[Ib,o.out];exact Zfb
section
def CX(n:Nat):List Bool:=(We (kP n)).map fun j=>n.testBit (kP n-1-j)
def ag3(v:Bool):Array UV:=#[U1 v]
def mS(n):(CX n).length=kP n:=by simp[CX]
def zC(h:j<kP n):(CX n)[j]?=Ts (n.testBit (kP n-1-j)):=by
 unfold CX;rw[VU,Yp h];rfl
def abP(hn:n<2^64):kP n<=64:=by
 rw[<-uf hn];exact Lib.bitLen_le n 64 Pi hn
def MT(hn:n<2^64)(o:k<64):(bits .and Tt (n:Int) (Tt.wrap (2^k)) !=0)=n.testBit k:=by
 have b:2^k<2^64:=by
  have:2^k<=2^63:=Nat.pow_le_pow_right Pi Ph;exact Nat.lt_of_le_of_lt this Pi
 have am:Tt.wrap ((2:Int)^k)=((2^k:Nat):Int):=by
  have:(2:Int)^k=((2^k:Nat):Int):=by rw[Int.natCast_pow];rfl
  rw[this,Cc b]
 rw[am,bits_and_u64_nat n (2^k) hn b];cases h:n.testBit k with
 |false=>
  have:n&&&2^k=0:=by
   apply Nat.eq_of_testBit_eq;intro i;rw[Nat.testBit_and,Nat.testBit_two_pow,Nat.zero_testBit];by_cases hi:k=i
   .subst hi;rw[h];rfl
   simp[hi]
  rw[this];rfl
 |true=>
  have:n&&&2^k≠0:=by
   intro e;have c:=congrArg (fun x=>x.testBit k) e;simp only[Nat.testBit_and,Nat.testBit_two_pow,Nat.zero_testBit,h]at c;simp at c
  simp;omega
def F9(n)(w:UN):
  VB UB 221 #[ag n] w fun e b=>
   e=UO (.func (.func 259) #[] #[UK (Ts ⟨w.heap.size,0,U8⟩)])/\b=w.alloc (Tq #[ag n] 30):=by
 unfold ag;go_enter func221,ntmps221;exact U7
def ahS{e:Ending}{A B C:Prop}(h:(e=UO (U1 true)/\A/\B)\/(e=UO (U1 false)/\C)):∃b:Bool,e=UO (U1 b)/\(b=true->A/\B)/\(b=false->C):=by
 rcases h with⟨h1,c⟩|⟨h1,c⟩
 .exact⟨true,h1,fun _=>c,fun e=>RH⟩
 exact⟨false,h1,fun e=>RH,fun _=>c⟩
def Bv(n b)(hn:n<2^64):
  NH UB 259 #[UK (Ts ⟨b,0,U8⟩)] ag3 (CX n) (fun W=>VX W b 30 (ag n)) (fun _=>False) (fun k=>k=b):=by
 intro y J Jx W d D u C G;refine callsIn_of_wp func259 rfl trivial ?_ rfl;simp only[ntmps259,WG,Up,VJ,VO,YI,WX,WY,XF,Wi,Vd,Vu];have c0:=d.cell;refine P5 d C G D fun H X N P=>have z:=abP hn;P1 (kP n) fun L r=>P3 ((uf hn).trans r) (fun j(h:j<L)=>zC (n:=n) (j:=j) (by rw[r];exact h)) ((mS n).trans r) fun A o f=>?_;rw[r]at z o;unfold ag at*;gi_wp2_with fail
 refine⟨QS,QS,(Vn.2 (bits_Len64 n _ Ph Ph)).mono ?_⟩;rintro e I⟨rfl,rfl⟩;gi_wp2_with fail
 rw[A.out];gi_loopw [3] (fun i wr=>∃m:Nat,m<=L/\i=Ti Tl ((m:Int)-1)/\VX wr b 30 (Ti Tt n)/\J (L-m) wr) (fun i _=>(VS i+1).toNat)
 case atStart=>exact⟨L,UY _,congrArg (Ti Tl) (by unfold wrap64;omega),H,by rw[Nat.sub_self];exact N.out⟩
 obtain⟨m,K,rfl,x,Q⟩:=hrel;refine P4 x Q fun T g=>have d0:=x.cell;?_;cases m with
 |zero=>
  gi_wp2
  go_end0
  exact⟨⟨_,rfl⟩,.inl (by rw[f.out];exact g.out)⟩
 |succ m=>
  have am:((m+1:Nat):Int)-1=(m:Int):=Ph;have E:=Tn (o (L-(m+1)) Ph);rw[show L-1-(L-(m+1))=m from Ph]at E;have O:=MT hn (k:=m) Ph;have t:=Tn (P _ _ _ g (Xg (fun _=>False) wr));obtain⟨fn,tmps,assign,body,U,B⟩:=X.out _ _ wr.drew E t;have Z:=Tn B;unfold ag3 at U;have s:=Tn ((Xg (fun _=>False) wr).boxed T (fun h=>h));have M:=s.out.cell;rw[am];gi_wp2
  gi_region_with (
          refine⟨QS,(Z.mono fun S Y h=>ahS h).mono ?_⟩
          rintro S Y⟨V,rfl,q⟩
          have p:=Tn q
          clear q)
  cases V
  .gi_wp2
   exact VC (results_none (fn:=f259) rfl _ _ _) rfl ⟨⟨_,rfl⟩,.inr ⟨L-(m+1)+1,by rw[f.out];omega,p.2 Za4⟩⟩
  obtain⟨l,c⟩:=p.out.1 rfl;refine P4 (c.boxed s (fun h=>h rfl)) l fun F R=>have z0:=F.out.cell;?_;gi_wp2
  go_roundw
  case rel=>exact⟨m,Ph,Pt,F,by rw[show L-m=L-(m+1)+1 from Ph];exact R.out⟩
  case measure=>simp[VS]
attribute [local go_sem] ZA fP cP dR
def ajD(w:UN)(B a n k:Nat)(W:UN):Prop:=∃out:Nat,VX W B 115 (.func (.func 141) #[ag 2305843009213691579] #[])/\VX W (B+1) 30 (ag a)/\VX W (B+1+1) 30 (ag out)/\tc Qp a n (kP n-k) out=ii Qp a n/\out<Qp/\aq w W
def FS{a out}(h:k<kP n)(S:tc m a n (kP n-k) out=ii m a n):tc m a n (kP n-(k+1)) (yx m a out (n.testBit (kP n-1-k)))=ii m a n:=by
 rw[<-S,show kP n-k=(kP n-(k+1))+1 from Ph,tc,show kP n-1-k=kP n-(k+1)from Ph]
def Kr(a n)(ha:a<2^64)(hn:n<2^64)(w:UN):
  VB UB 176 #[.func (.func 141) #[ag 2305843009213691579] #[],ag a,ag n] w (bM (ag (ii Qp a n)) w):=by
 refine(Vn (n:=0)).1 ?_;refine YV func176 rfl trivial ?_ rfl;simp only[ntmps176,WG,Up,VJ,VO,YI,WX,WY,XF,Wi,Vd,Vu];gi_wp2_with (gi_at_call 221;refine(Vn.2 (F9 _ _)).mono ?_;rintro e w'⟨rfl,rfl⟩)
 refine P1 w.heap.size fun B I=>P1 ((((w.alloc (Tq #[Value.func (ZP 141) #[ag 2305843009213691579] #[]] 115)).alloc (Tq #[ag a] 30)).alloc (Tq #[Ti Tt 1] 30)).alloc (Tq #[ag n] 30)) fun f d=>have Y:aq w f:=X6;?_;have b0:VX f B 115 (.func (.func 141) #[ag 2305843009213691579] #[]):=by rw[<-d,<-I];exact(((Wt _ _ _).alloc _).alloc _).alloc _
 have b1:VX f (B+1) 30 (ag a):=by rw[<-d,<-I];have:=((Wt (w.alloc (Tq #[Value.func (ZP 141) #[ag 2305843009213691579] #[]] 115)) 30 (ag a)).alloc (Tq #[Ti Tt 1] 30)).alloc (Tq #[ag n] 30);rwa[Ud]at this
 have b2:VX f (B+1+1) 30 (ag 1):=by rw[<-d,<-I];have:=(Wt ((w.alloc (Tq #[Value.func (ZP 141) #[ag 2305843009213691579] #[]] 115)).alloc (Tq #[ag a] 30)) 30 (ag 1)).alloc (Tq #[ag n] 30);rwa[Ud,Ud]at this
 have b3:VX f (B+1+1+1) 30 (ag n):=by rw[<-d,<-I];have:=Wt (((w.alloc (Tq #[Value.func (ZP 141) #[ag 2305843009213691579] #[]] 115)).alloc (Tq #[ag a] 30)).alloc (Tq #[Ti Tt 1] 30)) 30 (ag n);rwa[Ud,Ud,Ud]at this
 have hz:f.heap.size=B+4:=by rw[<-d,<-I];simp
 try simp only[Ud]
 rw[d];rw[I];refine P4 I hz fun U HZ=>?_;clear d I;have HA:=Tn ha;refine sq rfl (Vv func259 Pg rfl) (Bv n (B+1+1+1) hn)
  (fun o1 o2=>(b3.alloc _).alloc _) (fun b hb=>hb.elim) (fun b hb=>Ph) (fun x=>rfl)
  (fun b=>b=B+1+1) (fun b hb=>Ph) (fun b hb=>Ph)
  (ajD w B a n) (fun c k W=>False)
  ?stI ?stX ⟨1,b0,b1,b2,rfl,Pi,Y⟩ ?round ?done ?stop
 case stI=>
  rintro k A C⟨out,h1,h2,h3,h4,h5,h6⟩cf;exact⟨out,cf.boxed h1 TG,cf.boxed h2 TG,cf.boxed h3 TG,h4,h5,h6.trans (cf.below h6.size (by rintro k(h|h|h)<;>first|exact h.elim|(have:=U.out;omega)))⟩
 case stX=>exact fun c k A C h _=>h.elim
 case round=>
  rintro l k x W m rfl hW hi;have o:k<kP n:=by rw[<-mS n];exact(UU.1 m).1
  rw[zC o]at m;obtain rfl:=Vm m;refine P4 (fun out(h:tc Qp a n (kP n-k) out=ii Qp a n)=>FS o h) hi fun j HI=>P1 (n.testBit (kP n-1-k)) fun s z=>?_;rw[z]at j⊢;unfold ag3;clear z m hi;gi_wp2
  refine⟨Z5 _ _,HI,?_⟩;rintro Wb⟨out,M,P,i3,i4,i5,N⟩- -;refine P9 M P i3 i4 i5 N fun I1 I2 I3 I4 S J=>have c1:=M.cell;have c2:=P.cell;have c3:=i3.cell;have f3:=i3.frozen;?_;clear M P i3 i4 i5 N HI;refine P1 (out*out%Qp) fun o2 L=>?_;have G:o2<Qp:=by rw[<-L];exact Wf _ Pi
  refine P4 G L fun y t=>?_;clear L G;cases s
  .gi_wp2_with (gi_at_call 141;refine(CallsIn.inRound _ (Vn.2 (jk Qp out out Pi Pi (WF S Pi) (WF S Pi) _))).mono ?_;rintro e Q⟨rfl,D⟩;rw[t.out];have u:=aC D I3;have g3:=u.frozen;have e3:=u.cell;refine P4 u D fun Q3 F=>?_;clear u D)
   have g:Fr (fun b=>b=B+1+1) Q (Q.setCell ⟨B+1+1,0,U8⟩ (ag o2)):=Uz _ _ _ rfl;refine⟨(Uh F).trans g,o2,g.boxed (aC F I1) Ph,g.boxed (aC F I2) Ph,Q3.set _,?_,y,(aa J F).trans (g.below (VG J.size F.size) Zaf)⟩;have K:=j.out out I4;unfold yx at K;rw[if_neg Pi,t.out]at K;exact K
  gi_wp2_with fail
  refine(CallsIn.inRound _ (Vn.2 (jk Qp out out Pi Pi (WF S Pi) (WF S Pi) _))).mono ?_;rintro e Q⟨rfl,D⟩;rw[t.out];have q1:=aC D I1;have q2:=aC D I2;have u:=aC D I3;have g3:=u.frozen;have e3:=u.cell;have am:=q1.cell;have e2:=q2.cell;refine P5 q1 q2 u D fun Q1 Q2 Q3 F=>?_;clear q1 q2 u D;gi_wp2_with fail
  have g:Fr (fun b=>b=B+1+1) Q (Q.setCell ⟨B+1+1,0,U8⟩ (ag o2)):=Uz _ _ _ rfl;have q:=Tn g;clear g;refine(CallsIn.inRound _ (Vn.2 (jk Qp o2 a Pi Pi (WF y Pi) HA _))).mono ?_;rintro e w3⟨rfl,p⟩;refine P1 (o2*a%Qp) fun o3 r=>have O:Hid (o3<Qp):=Tn (by rw[<-r];exact Wf _ Pi);have Z:=Tn r;?_;rw[r];have r1:=aC p (q.boxed Q1 Ph);have r2:=aC p (q.boxed Q2 Ph);have T:=aC p (Q3.set (ag o2));have k3:=T.frozen;have l3:=T.cell;refine P5 r1 r2 T p fun R1 R2 R3 Id=>?_;clear r1 r2 T p r am e2 e3 g3;gi_wp2_with fail
  have g:Fr (fun b=>b=B+1+1) w3 (w3.setCell ⟨B+1+1,0,U8⟩ (ag o3)):=Uz _ _ _ rfl;have E:Fr (fun b=>b=B+1+1) Wb (w3.setCell ⟨B+1+1,0,U8⟩ (ag o3)):=(Uh F).trans (q.trans ((Uh Id).trans g));refine⟨E,o3,g.boxed R1 Ph,g.boxed R2 Ph,R3.set _,?_,O,J.out.trans (E.below J.size Zaf)⟩;have K:=j.out out I4;unfold yx at K;rw[if_pos rfl,t.out,Z.out]at K;exact K
 case done=>
  intro V ⟨out,M,P,i3,i4,i5,N⟩ H;rw[mS,Nat.sub_self]at i4;obtain rfl:out=ii Qp a n:=i4;refine P1 (ii Qp a n) fun R X=>?_;rw[X]at i3;have HRR:=Tn X;have c3:=i3.cell;refine P3 H i3 N fun HK I3 J=>?_;clear X H M P i3 i5 N;gi_wp2
  refine dB HK (v:=ag R) (by simp[Vo,results176,go_sem]) ⟨by rw[HRR.out],?_⟩;exact fN J (by rw[HZ.out];have:=U.out;omega) J.size _
 case stop=>exact fun c k W _ h _=>h.elim
end
def oT(a n)(b:a<2^64)(hn:n<2^64)(w:UN):VB UB 109 #[ag a,ag n] w (bM (ag (ii Qp a n)) w):=by
 go_enter func109,ntmps109;go_wp2_with fail;exact P2 (Kr a n b hn _) fun c g=>TS
def lT(n)(hn:n<2^64)(w:UN):VB UB 39 #[ag n] w (bM (ag (base n)) w):=by
 unfold base;go_enter func39,ntmps39;go_wp2_with fail;exact P2 (oT 4 n Pi hn _) fun b g=>TS
def rQ(a b)(c:a<2^64)(hb:b<2^64)(w:UN):VB UB 121 #[ag a,ag b] w (bM (ag (pC a b)) w):=by
 unfold pC;go_enter func121,ntmps121;go_wp2_with fail;exact P2 (jk Qp a b Pi Pi c hb _) fun d g=>TS
def jb(a b)(c:a<2^64)(hb:b<2^64)(w:UN):VB UB 74 #[ag a,ag b] w (bM (ag (gV a b)) w):=by
 unfold gV;go_enter func74,ntmps74;go_wp2_with fail;exact P2 (jk Rp a b Pi Pi c hb _) fun d g=>TS
def vy(a b)(w:UN):VB UB 73 #[ag a,ag b] w (bM (ag (mM a b)) w):=by
 unfold mM;go_enter func73,ntmps73;go_wp2_with fail;exact P2 (te Rp a b Pi Pi _) fun c g=>TS
def Cl(a b)(hb:b<2^64)(w:UN):VB UB 261 #[ag a,ag b] w (bM (ag (A9 a b)) w):=by
 unfold A9 mM;have h1:=Wf b (show 0<Rp from Pi);refine P1 (Rp-b%Rp) fun m K=>?_;have E:(1152921504606845789:Int)-(b:Int)%1152921504606845789=(m:Int):=by
  have c:(b:Int)%1152921504606845789=((b%Rp:Nat):Int):=by rw[Int.natCast_emod];rfl
  have A:Rp=1152921504606845789:=rfl;rw[c];omega
 have s:=Tn E;rw[K];clear h1 K E;unfold ag bM;go_enter func261,ntmps261;go_wp2_with fail;rw[s.out];refine P2 (te Rp a m Pi Pi _) fun d g=>have ys:=Tn g;?_;clear g;exact Ze9
def pV(s:Bool)(n:Nat):Int:=if s then(n:Int)else-(n:Int)
structure wL(m a x y U V:Nat)(s:Bool):Prop where
 x0:0<x
 xm:x<=m
 ym:y<=m
 um:U<=m
 sum:x*V+y*U=m
 res:nz y x y U V s=Hh m a
 uz:U=0->0<y/\0<V/\y<=x
 vz:V=0->0<U/\0<x%y
def wL.first{a}(K:0<m)(h:a%m≠0):wL m a (a%m) m 1 0 true:=by
 have p:=Wf a K;exact⟨Ph,Ph,UY _,Ph,Ph,rfl,fun h=>Ph,fun _=>⟨Ph,by rw[Nat.mod_mod];omega⟩⟩
def wL.vm{a x V s}(h:wL m a x y U V s):V<=m:=OX h.x0 h.sum
def wL.step{a x V s}(h:wL m a x y U V s)(b:0<y):wL m a y (x%y) V (U+x/y*V) (!s)/\U+x/y*V<=m:=by
 have h1:=CS h.sum;have hb:U+x/y*V<=m:=OX b h1;have c:=Wf x b;refine⟨⟨b,h.ym,by have:=h.ym;omega,h.vm,h1,?_,?_,?_⟩,hb⟩
 .have u:=h.res;obtain⟨k,rfl⟩:∃k,y=k+1:=⟨y-1,Ph⟩;rw[nz,if_neg Ph]at u;rw[<-u];exact rV _ _ _ _ _ _ _ (UY _) Ph
 .intro e;obtain⟨a1,a2⟩:=h.vz e;exact⟨a2,Ph,Ph⟩
 intro e;have d:U=0:=Ph;obtain⟨_,a2,a3⟩:=h.uz d;have:0<x/y:=Nat.div_pos a3 b;have:=Nat.mul_pos this a2;omega
def wL.done{a x V s}(h:wL m a x 0 U V s):Hh m a=(U,s)/\0<U:=by
 have u:=h.res;unfold nz at u;refine⟨u.symm,?_⟩;rcases Nat.eq_zero_or_pos U with e|e
 .have:=(h.uz e).1;omega
 exact e
def abB(s)(U V q:Nat):pV s U-(q:Int)*pV (!s) V=pV (!!s) (U+q*V):=by
 cases s<;>simp[pV]
 .rw[Int.sub_eq_add_neg];omega
 rw[Int.mul_neg];omega
def zn(m a)(K:m<4611686018427387904)(L:0<m)(b:a%m=0)(w:UN):
  VB UB 263 #[ag m,ag a] w (jO (UW #[ag 0,Ti Tl 10]) w):=by
 have E:=Tn (show(a:Int)%(m:Int)=0 from Ph);have c:((m:Int)==0)=false:=Pp;have am:=E.out;unfold ag jO;go_enter func263,ntmps263;exact UG
def tV(m a)(K:m<4611686018427387904)(L:0<m)(A:a%m≠0)(w:UN):
  VB UB 263 #[ag m,ag a] w (jO (UW #[ag (ui m a),Ti Tl 0]) w):=by
 have l:=Tn (wL.first L A);refine P1 (a%m) fun x0 b=>have E:=Tn (show(a:Int)%(m:Int)=(x0:Int)from Ph);have X:((m:Int)==0)=false:=Pp;have Y:((x0:Int)==0)=false:=Pp;?_;rw[b]at l;have am:=E.out;clear b A;unfold ag jO;go_enter func263,ntmps263;go_wp2_with fail;rw[E.out];clear am;go_loopw [6,7,8,9,10] (fun a1 a2 a3 a4 _ wr=>∃(x y U V:Nat)(s:Bool),a1=Ti Tt x/\a2=Ti Tt y/\a3=Ti Tl (pV s U)/\a4=Ti Tl (pV (!s) V)/\wr=w/\wL m a x y U V s) (fun _ a2 _ _ _ _=>(VS a2).toNat)
 case atStart=>exact⟨x0,m,1,0,true,rfl,rfl,rfl,rfl,rfl,l⟩
 obtain⟨x,y,U,V,s,rfl,rfl,rfl,rfl,rfl,d⟩:=hrel;have B:=Tn d;have b:=d.x0;have H:=d.xm;have T:=d.ym;have R:=d.um;have F:=d.vm;clear d;have g:-(m:Int)<=pV s U/\pV s U<=m:=by cases s<;>simp[pV]<;>omega
 have t:-(m:Int)<=pV (!s) V/\pV (!s) V<=m:=by cases s<;>simp[pV]<;>omega
 by_cases z:0<y
 .have t3:((y:Int) !=0)=true:=by simp;omega
  obtain⟨hn,hb⟩:=B.out.step z;have p:=Tn hn;have j:=abB s U V (x/y);refine P1 (x/y) fun q N=>P1 (x%y) fun r u=>have S:=Tn (show(x:Int)/(y:Int)=(q:Int) by rw[<-N];simp);have f:=YJ x y;?_;rw[N]at hn hb f j p;rw[u]at f p;have D:q<=x:=by rw[<-N];exact Nat.div_le_self _ _
  have W:r<=x:=by rw[<-u];exact Nat.mod_le _ _
  have O:r<y:=by rw[<-u];exact Wf _ z
  refine P3 (acN q y Ph) (show Tt.wrap ((x:Int)-((q*y:Nat):Int))=(r:Int)from Sa) j fun I P o=>have G:q*V<=m:=Ph;?_;have Q:-(m:Int)<=(q:Int)*pV (!s) V/\(q:Int)*pV (!s) V<=m:=by
   have J:((q*V:Nat):Int)=(q:Int)*(V:Int):=Int.natCast_mul _ _;cases s<;>simp only[pV,Bool.not_true,Bool.not_false,if_true,Bool.false_eq_true,if_false,Int.mul_neg]<;>omega
  have M:-(m:Int)<=pV s U-(q:Int)*pV (!s) V/\pV s U-(q:Int)*pV (!s) V<=m:=by
   rw[o.out];cases s<;>simp only[pV,Bool.not_true,Bool.not_false,if_true,Bool.false_eq_true,if_false]<;>omega
  clear hn f j N u;go_upto_region 7 with fail;rw[S.out,Cc (a:=q) Ph];go_upto_region 8 with fail;rw[I.out,P.out];go_wp2;go_roundw
  case rel=>exact⟨y,r,V,U+q*V,!s,rfl,rfl,rfl,congrArg _ o,trivial,p⟩
  case measure=>simp[VS];omega
 obtain rfl:y=0:=by omega
 obtain⟨h1,c⟩:=B.out.done;have C:=Tn (show ui m a=if s then U else m-U by unfold ui;rw[h1]);clear h1 g t;cases s
 .have t5:decide (pV false U<0)=true:=by simp[pV];omega
  have g:-(m:Int)<=pV false U/\pV false U<=0:=by simp[pV];omega
  go_wp2;go_ret2
  exact⟨by rw[C.out,show pV false U+(m:Int)=((m-U:Nat):Int) by simp[pV];omega];rfl,rfl⟩
 have t5:decide (pV true U<0)=false:=by simp[pV]
 have g:0<=pV true U/\pV true U<=m:=by simp[pV];omega
 go_wp2;go_ret2
 exact⟨by rw[C.out];rfl,rfl⟩
def Na(a)(w:UN):VB UB 262 #[ag a] w (jO (UW #[ag (zL a),Ti Tl (if a%Rp=0 then 10 else 0)]) w):=by
 unfold jO zL;by_cases h:a%Rp=0
 .rw[if_pos h,if_pos h];have H:=Tn h;go_enter func262,ntmps262;go_wp2_with fail;refine(zn Rp a Pi Pi H _).mono ?_;rintro e b⟨rfl,rfl⟩;exact UG
 rw[if_neg h,if_neg h];have H:=Tn h;go_enter func262,ntmps262;go_wp2_with fail;refine(tV Rp a Pi Pi H _).mono ?_;rintro e b⟨rfl,rfl⟩;exact UG
def Io(a:Nat):Nat:=if a%Qp=0 then 0 else ui Qp a
def O1(a)(w:UN):VB UB 228 #[ag a] w (jO (UW #[ag (Io a),Ti Tl (if a%Qp=0 then 10 else 0)]) w):=by
 unfold jO Io;by_cases h:a%Qp=0
 .rw[if_pos h,if_pos h];have H:=Tn h;go_enter func228,ntmps228;go_wp2_with fail;refine(zn Qp a Pi Pi H _).mono ?_;rintro e b⟨rfl,rfl⟩;exact UG
 rw[if_neg h,if_neg h];have H:=Tn h;go_enter func228,ntmps228;go_wp2_with fail;refine(tV Qp a Pi Pi H _).mono ?_;rintro e b⟨rfl,rfl⟩;exact UG
def ab9(a b:Nat):((a:Int)==(b:Int))=(a==b):=by
 rw[YH];simp;omega
def vv(x)(m:x<2^64)(w:UN):VB UB 120 #[ag x] w (bM (U1 (sL x)) w):=by
 by_cases L:0<x
 .by_cases h1:x<Qp
  .have Z:=Tn (show sL x=(ii Qp x Rp==1) by unfold sL;simp[L,h1]);have c:x<2305843009213691579:=h1;have d:decide ((0:Int)<(x:Int))=true:=Pp;have j:decide ((x:Int)<2305843009213691579)=true:=Pp;rw[Z.out];unfold bM;go_enter func120,ntmps120;go_wp2_with fail;refine P2 (oT x Rp m Pi _) fun l g=>have ys:=Tn g;P1 (ii Qp x Rp) fun p b=>have f:=Tn b;?_;rw[b];unfold ag;go_wp2;go_ret;exact⟨bV (by rw[f.out];exact ab9 p 1),ys⟩
  have Z:=Tn (show sL x=false by unfold sL;simp[h1]);have c:¬x<2305843009213691579:=h1;have d:decide ((0:Int)<(x:Int))=true:=Pp;have j:decide ((x:Int)<2305843009213691579)=false:=Pp;rw[Z.out];unfold bM ag;go_enter func120,ntmps120;exact Tf
 have Z:=Tn (show sL x=false by unfold sL;simp[L]);have d:decide ((0:Int)<(x:Int))=false:=Pp;rw[Z.out];unfold bM ag;go_enter func120,ntmps120;exact Tf
def eF:pD bq:=fun w b o s=>w.cell? ⟨b,o,U8⟩=Ts (Ti Tl s.id)/\w.cell? ⟨b,o+1,U8⟩=Ts (ag s.x)/\s.x<2^64
instance:mj eF:=⟨fun h hE=>⟨ae h.1 hE,ae h.2.1 hE,h.2.2⟩⟩
def eU(s:bq):UV:=UT #[Ti Tl s.id,ag s.x]
def ag6:pD Int:=fun w b o n=>w.cell? ⟨b,o,U8⟩=Ts (Ti Tl n)
instance:mj ag6:=⟨fun h hE=>ae h hE⟩
def jI(l:List Int):List UV:=l.map (Ti Tl)
def qW(l)(n:Int):jI (l++[n])=jI l++[Ti Tl n]:=by simp[jI]
def uA{base}{l:List Int}(hn:l.length=n)(h:w.ownsRow base 3 1 v n (jI l)):∃a c,v=Tm a n c/\n<=c/\c<=VL/\cr 1 ag6 w a l:=by
 rcases dD h with⟨rfl,L,_⟩|⟨g,cap,rfl,S,hb,_,J,K⟩
 .have:l=[]:=VA (hn.trans L);subst this;subst L;exact Tw
 refine⟨_,_,rfl,J,K,fun i x m=>⟨g,0,rfl,?_⟩⟩;rw[VY,XT];refine ir h S ?_;unfold jI;rw[VU,m];rfl
def I8:(UB.info? 3).map (fun i=>(i.zero,i.size,i.bytes))=Ts (Ts (Ti Tl 0),1,8):=Pg
def agQ(s)(w:UN):VB UB 144 #[eU s] w (bM (Ti Tl s.id) w):=by
 unfold eU;go_enter func144,ntmps144;go_wp2;go_ret;exact⟨rfl,af P0 _⟩
def mX(l:List bq)(a n cap w)(p:l.length=n)(P:n<=cap)(hn:n<=1000000000)(h:cr 2 eF w a l):
  VB UB 143 #[Tm a n cap,.func (.func 144) #[] #[]] w (fun e K=>∃v,e=UO v/\K.ownsRow w.heap.size 3 1 v n (jI (bS l))/\aq w K):=by
 obtain⟨i0,hi,C,u,z⟩:=WN I8;refine P4 p h fun L H=>?_;go_enter func143,ntmps143;go_wp2_with fail;refine P1 (w.alloc (Tq #[] 3)) fun f d=>have B:Hid (aq w f):=Tn Pq;?_
 have y:Hid (f.ownsRow w.heap.size 3 1 (Tm (Ts ⟨w.heap.size,0,U8⟩) 0 0) 0 []):=Tn (by
  rw[<-d];exact World.ownsRow_lit (base:=w.heap.size) (size:=1) (e:=3) w #[] 0 (UY _) Pi rfl)
 rw[d];go_loopw [11,5] (fun j v wr=>∃k:Nat,k<=n/\j=Ti Tl k/\wr.ownsRow w.heap.size 3 1 v k (jI (bS (l.take k)))/\aq w wr) (fun j _ _=>n-(VS j).toNat)
 case atStart=>exact⟨0,VF _,rfl,y,B⟩
 obtain⟨k,o,rfl,r,g⟩:=hrel;refine P4 r g fun M ys=>have G:=g.size;?_;by_cases R:k<n
 .obtain⟨x,m⟩:=ay L R;obtain⟨b,off,rfl,E,I,_⟩:=(H.ext ys) k x m;have O:=Tn (aW m);go_wp2_with fail;refine P2 (agQ x _) fun S D=>have F:=Tn (aa (af P0 _) D);have t:=Tn (ee M F);have J:=VG G F.size;?_;go_wp2_with (at_builtin;refine wpList_append_own_at _ rfl _ _ 84 rfl w.heap.size 3 i0 (Ti Tl 0) 1 8 underlying84 hi C u z rfl Pi _ _ _ rfl (t.alloc _) ⟨S.heap.size,0,U8⟩ 1 1 [Ti Tl x.id] rfl rfl (d9 _ _ _) Pu Pr Ph Pp ?_;intro T N q c _ s;refine P4 q (ZB (af (aa ys F) _) c (bE (t.alloc (Tq #[Ti Tl x.id] 3)))) fun A Id=>?_)
  go_roundw
  case rel=>
   refine⟨k+1,Ph,Pt,?_,Id⟩;rw[O.out];unfold bS;rw[WK,WI,Ym,qW];exact A.out
  case measure=>simp[VS];omega
 obtain rfl:k=n:=by omega
 have Q:=Tn (VD (l:=l) (i:=k) (by rw[L.out];exact UY _));go_wp2;go_ret;exact⟨_,rfl,by have:=M.out;rw[Q.out]at this;exact this,ys⟩
def Lz{b:List Int}{n}(h:b[k]?=Ts n):ul (b.take k) (b.drop k)=(decide (1<=n)&&(decide (n<(Rp:Int))&&(!(b.take k).contains n&&ul (b.take (k+1)) (b.drop (k+1))))):=by
 obtain⟨o,rfl⟩:=UU.1 h;rw[WT o,ul,aW (V8 o)]
abbrev ahN(w:UN)(b:Nat)(m:List (Int×UV)):Prop:=cW UB 3 (Ti Tl) (fun n:Int=>(Lit.int Tl n).wf=true) w b m
def DW(l:List Int):List (Int×UV):=l.map fun n=>(n,U1 true)
def N7(l n):(fi (DW l) n).getD (U1 false)=U1 (l.contains n):=by
 induction l with
 |nil=>rfl
 |cons x l b=>
  unfold DW at b⊢;rw[WI,fi];by_cases m:x=n
  .subst m;simp
  have:(n==x)=false:=by simpa using fun e=>m e.symm
  rw[List.contains_cons,this,Bool.false_or,<-b];simp[m]
def acS{l:List Int}{n}(h:l.contains n=false):jn (DW l) n (U1 true)=DW (l++[n]):=by
 rw[Ef]
 .simp[DW]
 rw[y9];intro p b e;unfold DW at b;obtain⟨x,m,rfl⟩:=Wl.1 b;rw[List.contains_eq_mem,decide_eq_false_iff_not]at h;exact h (e▸m)
def af2{n:Int}(h1:-9223372036854775808<=n)(c:n<=9223372036854775807):(Lit.int Tl n).wf=true:=by
 show(decide (Tl.min<=n)&&decide (n<=Tl.max))=true
 have a:Tl.min=-9223372036854775808:=Pg;have b:Tl.max=9223372036854775807:=Pg;rw[a,b];simp[h1,c]
def sk(l:List Int)(a n cap w)(Y:l.length=n)(hnc:n<=cap)(hn:n<=1000000000)(h:cr 1 ag6 w a l):
  VB UB 142 #[Tm a n cap] w (bM (U1 (cM l)) w):=by
 have E:=acJ (P:=UB) (kt:=3) underlying3;have T:= @run_makeMap UB;refine P4 Y h fun V H=>P1 (w.alloc (.map #[] 0)) fun f d=>have N:Hid (aq w f):=Tn Pq;have A:Hid (ahN f w.heap.size (DW [])):=Tn (by rw[<-d];exact cW.made _ _ _ _ w);?_;go_enter func142,ntmps142;go_wp2_with fail;try rw[d]
 refine P1 w.heap.size fun B U=>?_;rw[U]at A⊢;have HB:=Tn U;go_loopw [9] (fun j wr=>∃k:Nat,k<=n/\j=Ti Tl k/\ahN wr B (DW (l.take k))/\ul [] l=ul (l.take k) (l.drop k)/\aq w wr) (fun j _=>n-(VS j).toNat)
 case atStart=>exact⟨0,VF _,rfl,A,rfl,N⟩
 obtain⟨k,o,rfl,K,G,g⟩:=hrel;refine P3 K G g fun D r ys=>?_;by_cases R:k<n
 .obtain⟨x,m⟩:=ay V R;obtain⟨b,off,rfl,J⟩:=(H.ext ys) k x m;have F:=Lz m;have hc':wr.cell? ⟨b,off+k,U8⟩=Ts (Ti Tl x):=T3;refine P4 (aW m) F fun HX s=>?_;by_cases h1:1<=x
  .by_cases c:x<1152921504606845789
   .have t:=af2 (n:=x) Ph Ph;have C:=(D.run_lookup (mt:=300) E underlying300 (z:=U1 false) Pg (k:=x) t).trans (congrArg (fun v=>Result.ok v wr) (N7 _ _));cases q:(l.take k).contains x with
    |true=>
     rw[q]at C;have Z:=Tn (show cM l=false by unfold cM;rw[r.out,s.out,q];simp);exact Tc
    |false=>
     rw[q]at C;refine P3 q t (show ul [] l=ul (l.take (k+1)) (l.drop (k+1)) by rw[r.out,s.out,q,decide_eq_true h1,decide_eq_true (p:=x<(Rp:Int)) c];rfl) fun Q W M=>?_;go_wp2_with (at_mapUpdate;refine cK rfl _ _ _ 300 rfl E underlying300 rfl D.out x _ rfl rfl W.out ?_;intro w1 y I O;refine P4 y I fun QM QF=>?_)
     go_roundw
     case rel=>
      refine⟨k+1,Ph,Pt,?_,M,((Uh (S:=fun _=>False) ys).onto QF (fun i hi e=>by have:=HB.out;omega)).ext (fun _ _ h=>h)⟩;rw[HX.out,<-acS Q.out];exact QM.out
     case measure=>simp[VS];omega
   have Z:=Tn (show cM l=false by unfold cM;rw[r.out,s.out,decide_eq_false (p:=x<(Rp:Int)) c];simp);have t1:decide (x<1)=false:=Pp;have t2:decide ((1152921504606845789:Int)<=x)=true:=Pp;exact Tc
  have Z:=Tn (show cM l=false by unfold cM;rw[r.out,s.out,decide_eq_false h1];simp);have t1:decide (x<1)=true:=Pp;exact Tc
 obtain rfl:k=n:=by omega
 have u:cM l=(decide (0<k)&&decide (k<=7)):=by
  unfold cM;rw[r.out,V.out,List.drop_of_length_le Zfu];simp[ul]
 have HF:=Tn u;by_cases L:0<k
 .by_cases X:k<=7
  all_goals
   go_wp2
   go_ret
   exact⟨by rw[HF.out];first|(simp[L,X];done)|(simp[L,X];omega),ys⟩
 go_wp2;go_ret;exact⟨by rw[HF.out];simp[L],ys⟩
def kR{α:Type}(p:α->Bool)(l:List α):Int:=match l.findIdx? p with
 |some i=>(i:Int)
 |none=>-1
def kW{α:Type}{p:α->Bool}{l:List α}{x:α}(h:l[k]?=Ts x)(c:p x=true)(hn:(l.take k).all (fun x=> !p x)=true):kR p l=k:=by
 have o:=(UU.1 h).1;have:l.findIdx? p=Ts k:=by
  rw[List.findIdx?_eq_some_iff_getElem];refine⟨o,by rw[(UU.1 h).2];exact c,fun j Q=>?_⟩;rw[WE]at hn;have b:j<l.length:=Ph;have:=hn l[j] (Uv (i:=j) (by rw[XM,if_pos Q,V8 b]));simpa using this
 unfold kR;rw[this]
def lr{α:Type}{p:α->Bool}{l:List α}(hn:l.all (fun x=> !p x)=true):kR p l=-1:=by
 have:l.findIdx? p=U8:=by
  rw[List.findIdx?_eq_none_iff];intro x m;rw[WE]at hn;have:=hn x m;simpa using this
 unfold kR;rw[this]
def gI{α:Type}(p:α->Bool)(l:List α):(kR p l=-1/\l.find? p=U8/\l.any p=false)\/∃(i:Nat)(x:α),kR p l=i/\l[i]?=Ts x/\p x=true/\l.find? p=Ts x/\l.any p=true:=by
 cases h:l.findIdx? p with
 |none=>
  left;have c:=List.findIdx?_eq_none_iff.1 h;refine⟨by unfold kR;rw[h],List.find?_eq_none.2 fun x m=>by simp[c x m],?_⟩;rw[List.any_eq_false];intro x m;simp[c x m]
 |some i=>
  right;obtain⟨hi,b,d⟩:=List.findIdx?_eq_some_iff_getElem.1 h;refine⟨i,l[i],by unfold kR;rw[h],V8 hi,b,?_,?_⟩
  .rw[List.find?_eq_some_iff_getElem];exact⟨b,i,hi,rfl,fun j Q=>by have:=d j Q;simpa using this⟩
  rw[List.any_eq_true];exact⟨l[i],List.getElem_mem hi,b⟩
structure kI{α:Type}(F:FuncId)(caps:Array UV)(w0:UN)(l:List α)(enc:α->UV)(p:α->Bool):Prop where
 enters:∀args w,(Wu F args).run UB w= .ok (.enter F args) w
 does:∀x∈l,∀W,aq w0 W->VB UB F (#[enc x]++caps) W (bM (U1 (p x)) W)
def kI.ext{α:Type}{F b}{l:List α}{enc:α->UV}{p:α->Bool}(h:kI F b d l enc p)(g:aq d c):kI F b c l enc p:=
 ⟨h.enters,fun s z W f=>h.does s z W (aa g f)⟩
section
attribute [local go_sem] ZA fP cP dR
def aY(w:UN)(a:Option VW)(s:au):Prop:=∀(i:Nat)(x:UInt8),s[i]?=Ts x->∃b off,a=Ts ⟨b,off,U8⟩/\w.cell? ⟨b,off+i,U8⟩=Ts (Ti Uy (x.toNat:Int))
def ahA(t:WR):Prop:=t=113\/t=30
def vW:∀s:au,(uE s).length=(s.length+6)/7:=fun s=>by
 refine P1 s.length fun n hn=>?_;induction n using Nat.strongRecOn generalizing s with
 |_ n b=>
  by_cases h:s=[]
  .subst h;rfl
  have p:0<s.length:=YL.2 h;rw[lX h,Up,b (s.drop 7).length Py _ rfl,VT];omega
def Hv:∀(k:Nat)(s:au),7*k<s.length->(uE s)[k]?=Ts (le ((s.drop (7*k)).take 7))
 |0,s,h=>by
  have zs:s≠[]:=by intro e;subst e;simp at h
  rw[lX zs];rfl
 |k+1,s,h=>by
  have zs:s≠[]:=by intro e;subst e;simp at h
  rw[lX zs,List.getElem?_cons_succ,Hv k (s.drop 7) Py,List.drop_drop];rw[show 7+7*k=7*(k+1)from Ph]
def jc(l:List Nat):List UV:=l.map fun x=>ag x
def xT(l x):jc (l++[x])=jc l++[ag x]:=by simp[jc]
def A4:(UB.info? 30).map (fun i=>(i.zero,i.size,i.bytes))=Ts (Ts (Ti Tt 0),1,8):=Pg
def adO{t:au}{c:UInt8}(f:t.length=j)(Q:j<=6):bits .or Tt ((le t:Nat):Int) (Tt.wrap (Tt.wrap (c.toNat:Int)*2^(8*j)))=((le (t++[c]):Nat):Int):=by
 have J:=c.toNat_lt;have p:=Ou t;rw[f]at p;have x:(256:Nat)^j<=281474976710656:=VG (Nat.pow_le_pow_right Pi Q) Pi;have d:(2:Nat)^(8*j)=256^j:=by rw[Nat.pow_mul]
 have K:c.toNat*256^j<72057594037927936:=by
  have:c.toNat*256^j<=255*281474976710656:=Nat.mul_le_mul Ph x;omega
 have am:(c.toNat:Int)*2^(8*j)=((c.toNat*256^j:Nat):Int):=by rw[Int.natCast_mul,<-d];simp
 have g:Tt.wrap (c.toNat:Int)=(c.toNat:Int):=gu Ph Ph;rw[g,am,gu Ph Ph,bits_or_u64_nat _ _ Ph Ph,Ii,f];have A:=Nat.shiftLeft_add_eq_or_of_lt (i:=8*j) (b:=le t) (by rw[d];exact p) c.toNat;rw[Nat.shiftLeft_eq,d]at A;rw[Nat.or_comm,<-A];omega
def jV{d}(h:w.ownsRow b1 e m v n d)(hb:b2<=b1):w.ownsRow b2 e m v n d:=by
 exact UL
def yU{base}{d:List UV}(h:w.ownsRow base e m v (k+1) d):∃g cap,v=Tm (Ts ⟨g,0,U8⟩) (k+1) cap:=by
 rcases h.2 with⟨_,L⟩|⟨g,cap,c,b,_⟩
 .omega
 exact⟨g,cap,b⟩
def afC{C:WR->Prop}{base f}(h:w.ownsRow base e m v n f)(d:C e)(S:v.ownBlock=Ts g):CC C w g:=by
 rcases h.2 with⟨b,_⟩|⟨g',cap,c,b,_,j,_⟩
 .rw[b]at S;simp[Vt]at S
 rw[b]at S;simp only[Vt,Vw]at S;subst S;exact⟨_,_,_,j,d⟩
def ajR(w:UN)(B:Nat)(s:au)(k:Nat)(V:UN):Prop:=∃v,VX V B 113 v/\V.ownsRow (B+1) 30 1 v ((uE s).take k).length (jc ((uE s).take k))/\aq w V
def De{x:Nat×Nat}(h:(qb n)[k]?=Ts x):7*k<n/\x=(7*k,min 7 (n-7*k)):=by
 have o:=(UU.1 h).1;rw[iX]at o;have b:7*k<n:=Ph;rw[wE b]at h;exact⟨b,(Vm h).symm⟩
def agS(s:au)(ba n cap w)(hn:s.length=n)(hnc:n<=cap)(hn2:n<=70000000000000)(z:aY w ba s):
  VB UB 36 #[Tm ba n cap] w (fun e w'=>∃v,e=UO v/\w'.ownsRow w.heap.size 30 1 v (uE s).length (jc (uE s))/\aq w w'):=by
 obtain⟨i0,hi,hz0,hz1,hz2⟩:=WN A4;refine(Vn (n:=0)).1 ?_;refine YV func36 rfl trivial ?_ rfl;simp only[ntmps36,WG,Up,VJ,VO,YI,WX,WY,XF,Wi,Vd,Vu];refine P4 hn z fun HN HS=>?_;clear hn z;gi_wp2_with (gi_at_call 103;refine(Vn.2 (JZ _ _ _ _)).mono ?_;rintro e w'⟨rfl,rfl⟩)
 refine P1 w.heap.size fun B y=>P1 (((w.alloc (Tq #[zz] 113)).alloc (Tq #[Tm ba n cap] 37)).alloc (Tq #[Ti Tl 7] 3)) fun u T=>have hE1:aq w u:=XV;?_;have b0:VX u B 113 (zz):=by rw[<-T,<-y];exact((Wt _ _ _).alloc _).alloc _
 have b1:VX u (B+1) 37 (Tm ba n cap):=by rw[<-T,<-y];have:=(Wt (w.alloc (Tq #[zz] 113)) 37 (Tm ba n cap)).alloc (Tq #[Ti Tl 7] 3);rwa[Ud]at this
 have b2:VX u (B+1+1) 3 (Ti Tl 7):=by rw[<-T,<-y];have:=Wt ((w.alloc (Tq #[zz] 113)).alloc (Tq #[Tm ba n cap] 37)) 3 (Ti Tl 7);rwa[Ud,Ud]at this
 have hz:u.heap.size=B+3:=by rw[<-T,<-y];simp
 try simp only[Ud]
 try rw[T]
 try rw[y]
 refine P4 y hz fun HB HZ=>?_;clear T y;obtain⟨X,P,U⟩:∃X P,0<n->ba=Ts ⟨X,P,U8⟩:=by
  by_cases L:0<n
  .obtain⟨x,hx⟩:=ay HN L;obtain⟨b,off,hb,_⟩:=HS.out 0 x hx;exact⟨b,off,fun _=>hb⟩
  exact⟨0,0,fun h=>absurd h L⟩
 have nC1:¬ahA 37:=by unfold ahA;decide
 have nC2:¬ahA 3:=by unfold ahA;decide
 refine mL (C:=ahA) rfl (Vv func173 Pg rfl) (Ez ba n cap (B+1) hnc Ph X P U ahA nC1 nC2)
  (fun o1 o2=>⟨(b1.alloc _).alloc _,(b2.alloc _).alloc _⟩) (fun x=>rfl)
  (fun _=>False) (fun b hb=>hb.elim)
  (ajR w B s)
  (fun c k V=>False)
  ?stI ?stX ⟨_,b0,WO _ _ _ _,hE1⟩ ?round ?done ?stop
 case stI=>
  intro k A C' ⟨v,h1,h2,h3⟩ cf;refine⟨v,cf.boxed h1 (.inl (.inl rfl)),j8 h2 (fun g o=>?_),h3.trans ((cf.mono (by rw[HZ.out];have:=HB.out;omega)).below h3.size)⟩;rcases h2.2 with⟨I,_⟩|⟨g',cap',cur,I,_,Z,_⟩
  .rw[I]at o;simp[Vt]at o
  rw[I]at o;simp only[Vt,Vw]at o;subst o;exact cf.block _ (UE.1 Z).1 (.inr ⟨_,_,_,Z,.inr rfl⟩)
 case stX=>exact fun c k A C' h _=>h.elim
 case round=>
  rintro lo k x V hx rfl hV hi;obtain⟨hk7,rfl⟩:=De hx;refine P1 (min 7 (n-7*k)) fun m K=>P1 ((s.drop (7*k)).take 7) fun p hp=>?_;have hpl:p.length=m:=by rw[<-hp,VZ,VT,HN.out,<-K]
  have ab:=Tn (Hv k s (by rw[HN.out];exact hk7));obtain rfl:=U Ph;have HPC:Hid (∀(V:UN),aq w V->∀(j:Nat)(c:UInt8),p[j]?=Ts c->V.cell? ⟨X,P+7*k+j,U8⟩=Ts (Ti Uy (c.toNat:Int))):=Tn fun V hE j c J=>by
   rw[<-hp,XM]at J;split at J
   .rw[YE]at J;obtain⟨b,off,hb,h9⟩:=HS.out (7*k+j) c J;cases hb;rw[Nat.add_assoc];exact(hE.cell (p:=⟨X,P+(7*k+j),U8⟩) (aR h9)).trans h9
   cases J
  rw[hp]at ab;refine P4 hpl hi fun D HI=>have hm7:m<=7:=Ph;?_;unfold Nj;simp only[K];clear hx hp hpl K hi hV;gi_wp2
  refine⟨jF.refl _,HI,?_⟩;clear HI;rintro Vb⟨v,i1,M,i3⟩- -;refine P3 i1 M i3 fun I1 F Y=>?_;clear i1 M i3;gi_wp2
  gi_loopw [5,13] (fun a i wr=>∃j:Nat,wr=Vb/\j<=m/\i=Ti Tl j/\a=Ti Tt (le (p.take j):Nat)) (fun _ i _=>m-(VS i).toNat)
  case atStart=>exact⟨0,rfl,Ph,rfl,rfl⟩
  obtain⟨j,rfl,Q,rfl,rfl⟩:=hrel;by_cases R:j<m
  .obtain⟨c,J⟩:=ay D R;have hcell:=HPC.out _ Y j c J;have O:p.take (j+1)=p.take j++[c]:=by rw[Xk,J];rfl
   have ys:=Tn (adO (t:=p.take j) (c:=c) (j:=j) (by rw[VZ,D.out];omega) Ph);rw[<-O]at ys;clear J O;gi_wp2
   exact⟨⟨j+1,trivial,Ph,Pt,congrArg _ ys⟩,by simp[VS];omega⟩
  obtain rfl:j=m:=by omega
  have d0:=I1.out.cell;have f0:=I1.out.frozen;have hpt:p.take j=p:=VD (by rw[D.out];exact UY _);rw[hpt];have ac:((uE s).take k).length<=k:=QD;have hsz:B+1<=wr.heap.size:=I1.out.lt;refine P1 (((uE s).take k).length) fun q N=>?_;rw[N]at ac;refine P4 (show wr.ownsRow (B+1) 30 1 v q (jc ((uE s).take k)) by rw[<-N];exact F.out) N fun HO HQ=>?_;clear hpt N
  gi_wp2_with (
         gi_at_builtin
         refine wpListIn_append_own_at _ rfl _ _ 113 rfl (B+1) 30 i0 (Ti Tt 0) 1 8 underlying113 hi hz0 hz1 hz2 rfl Pi v _ _ rfl (HO.alloc _) ⟨wr.heap.size,0,U8⟩ 1 1 [ag (le p)] rfl rfl (d9 _ _ _) Pu Pr Ph Pp ?_
         intro v1 w1 d f _ _
         obtain⟨g1,cp1,rfl⟩:=yU d
         have G:Fr (fun b=>v.ownBlock=Ts b) wr w1:=(Fr.alloc _ wr _).trans ((Fr.grown f).mono fun _ _ e=>e)
         have r:=G.boxed I1 (fun e=>by have:=bE F B e;omega)
         have z1:=r.cell
         have f1:=r.frozen
         refine P3 r G d fun HB1 l ad=>?_
         clear d f G r)
  have E:Fr (fun b=>b=B) w1 (w1.setCell ⟨B,0,U8⟩ (Tm (Ts ⟨g1,0,U8⟩) (q+1) cp1)):=Uz _ _ _ rfl;refine⟨jF.trans ⟨l.os,l.tape,l.output,l.size,fun i hi J _=>l.out.block i hi (fun e=>J (afC F (.inr rfl) e))⟩ (jF.setCell _ _ _ ⟨_,_,_,HB1,.inl rfl⟩),_,HB1.set _,?_,?_⟩
  .have hl:(uE s).take (k+1)=(uE s).take k++[le p]:=by rw[Xk,ab.out];rfl
   rw[hl,xT,Uo,HQ.out];exact eM ad E (fun g o e=>by have:=bE ad g o;have e':g=B:=e;omega)
  have y:=HB.out;exact(((Uh (S:=fun _=>False) Y).onto l (fun i hi e=>by have:=bE F i e;omega)).onto E (fun i hi e=>by have e':i=B:=e;omega)).ext (fun _ _ h=>h)
 case done=>
  intro V hi H;obtain⟨v,i1,M,i3⟩:=hi;have hl:(uE s).take (qb n).length=uE s:=VD (by rw[vW,iX,HN.out];exact UY _);rw[hl]at M;have d0:=i1.cell;refine P3 M i3 H fun F Y HK=>?_;clear i1 M i3 H hl;gi_wp2
  refine dB HK (v:=v) (by simp[Vo,results36,go_sem]) ⟨v,rfl,?_,fN Y (by rw[HZ.out,HB.out];omega) Y.size _⟩;refine jV (b1:=B+1) (eM F (Fr.putObj (S:=fun b=>b=u.heap.size) V _ _ rfl) (fun g o e=>?_)) (by rw[HB.out];omega);have e':g=u.heap.size:=e;rcases F.out.2 with⟨I,_⟩|⟨g',cap',cur,I,_,Z,_⟩
  .rw[I]at o;simp[Vt]at o
  rw[I]at o;simp only[Vt,Vw]at o;subst o;rw[e',HK.out]at Z;cases Z
 case stop=>exact fun c k W _ h _=>h.elim
end
section
def oG:List Nat->rX->rX
 |[],s=>s
 |[x],s=>⟨iY s.a x,s.b,s.c⟩
 |x::y::_,s=>⟨iY s.a x,iY s.b y,s.c⟩
def tL:∀(r:List Nat)(s:rX),r≠[]->oJ r s=oJ (r.drop 2) (Fg (oG r s))
 |[],_,h=>absurd rfl h
 |[_],_,_=>rfl
 |_::_::_,_,_=>rfl
def lB(w:UN)(b:Nat)(s:rX):Prop:=w.heap[b]?=Ts (Tq #[ag s.a,ag s.b,ag s.c] 112 (0,0))
section
variable {w w':UN} {b:Nat} {s:rX}
def lB.cells(h:lB w b s):w.cell? ⟨b,0,U8⟩=Ts (ag s.a)/\w.cell? ⟨b,1,U8⟩=Ts (ag s.b)/\w.cell? ⟨b,2,U8⟩=Ts (ag s.c):=by
 exact Zcv
def lB.frozen(h:lB w b s)(i:Nat):w.frozen? ⟨b,i,U8⟩=false:=VQ w b i _ _ h
def lB.set0(h:lB w b s)(v):lB (w.setCell ⟨b,0,U8⟩ (ag v)) b ⟨v,s.b,s.c⟩:=(VE w b 0 _ _ _ h).trans Pm
def lB.set1(h:lB w b s)(v):lB (w.setCell ⟨b,1,U8⟩ (ag v)) b ⟨s.a,v,s.c⟩:=(VE w b 1 _ _ _ h).trans Pm
def lB.set2(h:lB w b s)(v):lB (w.setCell ⟨b,2,U8⟩ (ag v)) b ⟨s.a,s.b,v⟩:=(VE w b 2 _ _ _ h).trans Pm
def lB.lt(h:lB w b s):b<w.heap.size:=(UE.1 h).1
def lB.fr{S:Nat->Prop}(h:lB w b s)(P:Fr S w w')(z:¬S b):lB w' b s:=(P.block b h.lt z).trans h
end
def Al(B:Nat)(w:UN)(a:Option VW)(c:Nat)(r:List Nat):Prop:=
 (a=U8/\r=[]/\c=0)\/∃g off,a=Ts ⟨g,off,U8⟩/\B<=g/\r.length<=c/\c<=VL/\∀(i:Nat)(x:Nat),r[i]?=Ts x->w.cell? ⟨g,off+i,U8⟩=Ts (ag x)
def Al.of_own{B}{w:UN}{v:UV}{r:List Nat}(h:w.ownsRow B 30 1 v r.length (jc r)):∃a c,v=Tm a r.length c/\Al B w a c r:=by
 rcases dD h with⟨rfl,hn,_⟩|⟨g,cap,rfl,S,hb,_,J,K⟩
 .have:r=[]:=VA hn;subst this;exact⟨U8,0,rfl,.inl ⟨rfl,rfl,rfl⟩⟩
 refine⟨_,_,rfl,.inr ⟨g,0,rfl,hb,J,K,fun i x m=>?_⟩⟩;rw[VY];refine ir h S ?_;unfold jc;rw[VU,m];rfl
def I9:UV->Nat
 |Tm _ n _=>n
 |_=>0
def aiK:UV->Nat
 |U1 true=>1
 |_=>0
def KR(r:List Nat)(s){q}(N:min 2 r.length=q):oG (r.take q) s=oG r s:=by
 match r with
 |[]=>simp
 |[x]=>
      have:q=1:=by simp at N;omega
      subst this;rfl
 |x::y::t=>
          have:q=2:=by simp at N;omega
          subst this;rfl
def Mk(r:List Nat)(s:rX):oG (r.take 0) s=s:=by simp[oG]
def af7{r:List Nat}{x}(s:rX)(h:r[0]?=Ts x):oG (r.take (0+1)) s=⟨iY s.a x,s.b,s.c⟩:=by
 cases r with
 |nil=>simp at h
 |cons y t=>simp at h;subst h;rfl
def agK{r:List Nat}{x}(s:rX)(h:r[1]?=Ts x):oG (r.take (1+1)) s=⟨(oG (r.take 1) s).a,iY (oG (r.take 1) s).b x,(oG (r.take 1) s).c⟩:=by
 match r,h with
 |[],h=>simp at h
 |[_],h=>simp at h
 |y::z::t,h=>simp at h;subst h;rfl
def J4(s:au)(b:Bool)(r:List Nat)(st:rX):Prop:=(b=true->r=uE s/\st=⟨0,0,s.length⟩)/\(b=false->NS s=oJ r st)
def J4.step{s:au}{b r st}(h:J4 s b r st)(u:b=true\/r≠[]):J4 s false (r.drop 2) (Fg (oG r st)):=by
 refine⟨fun e=>RH,fun _=>?_⟩;cases b with
 |false=>rw[h.2 rfl,tL r st (u.resolve_left Pm)]
 |true=>
  obtain⟨rfl,rfl⟩:=h.1 rfl;unfold NS;by_cases z:s=[]
  .subst z;rfl
  rw[if_neg z,tL _ _ (by rw[lX z];simp)]
def Bo{r}{s:rX}(d:s.a<2^64)(hb:s.b<2^64)(J:s.c<2^64):(oG r s).a<2^64/\(oG r s).b<2^64/\(oG r s).c<2^64:=by
 match r with
 |[]=>exact⟨d,hb,J⟩
 |[x]=>exact⟨cd (jL _ _),hb,J⟩
 |x::y::_=>exact⟨cd (jL _ _),cd (jL _ _),J⟩
def Hx(s:au)(ba n cap w)(hn:s.length=n)(hnc:n<=cap)(hn2:n<=70000000000000)(z:aY w ba s):
  VB UB 10 #[Tm ba n cap] w (bM (UT #[ag (bF s).1,ag (bF s).2]) w):=by
 refine P4 hn z fun HN HS=>P1 w.heap.size fun B hB=>P1 ((w.alloc (Tq #[Ti Tt 0,Ti Tt 0] 56)).alloc (Tq #[Ti Tt 0,Ti Tt 0,Ti Tt (n:Int)] 112)) fun t T=>have HE1:Hid (aq w t):=Tn RS;?_
 have HX1:Hid (lB t (B+1) ⟨0,0,n⟩):=Tn (by
  rw[<-T,<-hB];have:=UZ (w.alloc (Tq #[Ti Tt 0,Ti Tt 0] 56)) (Tq #[Ti Tt 0,Ti Tt 0,Ti Tt (n:Int)] 112);rw[Ud]at this
  exact this)
 have HR1:Hid (t.heap[B]?=Ts (Tq #[Ti Tt 0,Ti Tt 0] 56 (0,0))):=Tn (by
  rw[<-T,<-hB]
  exact(Below.heap_alloc _ _ _ Pm).trans (UZ w _))
 have HB:=Tn hB;have kA:∀(p:Option VW)(c:Nat)(w:UN),(Instr.arrayAt 56 (Tm p 2 c)).run UB w= .ok (UK p) w:=fun p c w=>run_arrayAt w (a:=p) (len:=2) (cap:=c) (h:=underlying56) (hn:=UY _);go_enter func10,ntmps10;go_upto_region 2 with fail;have HS1:Hid (aY t ba s):=Tn fun i x m=>by
  obtain⟨b,off,h1,h2⟩:=HS.out i x m;exact⟨b,off,h1,ae h2 HE1⟩
 go_wp2_with fail;refine(agS s ba n cap t HN hnc hn2 HS1).mono ?_;rintro e w2⟨v,rfl,hown,D⟩;obtain⟨a0,c0,rfl,u⟩:=Al.of_own hown;refine P3 u D (HX1.fr (Uh (S:=fun _=>False) D) (fun h=>h)) fun HROW HE2 HX2=>have HI0:Hid (J4 s true (uE s) ⟨0,0,n⟩):=Tn ⟨fun _=>⟨rfl,by rw[HN.out]⟩,fun e=>RH⟩;?_;have hlen:(uE s).length<=70000000000000:=by rw[vW,HN.out];omega
 have HLEN:=Tn hlen;have HSM:Hid (∀x∈uE s,x<2^64):=Tn fun x m=>WF (afT x m) Pi;refine P1 (uE s) fun r0 hr0=>have hB1:=Tn HX1.out.lt;?_;rw[hr0]at HROW HI0 HLEN HSM⊢;go_upto_region 4 with fail;go_loopw [4,5] (fun l f wr=>∃(r:List Nat)(ao:Bool)(st:rX)(a:Option VW)(c:Nat),l=Tm a r.length c/\f=U1 ao/\(r.length<=70000000000000/\∀x∈r,x<2^64)/\(st.a<2^64/\st.b<2^64/\st.c<2^64)/\J4 s ao r st/\lB wr (B+1) st/\Al t.heap.size wr a c r/\Fr (fun b=>b=B+1) w2 wr)
  (fun l f _=>I9 l+aiK f)
 case atStart=>exact⟨r0,true,⟨0,0,n⟩,a0,c0,rfl,rfl,⟨HLEN,HSM⟩,⟨Zbv,Zbv,by show n<_;omega⟩,HI0,HX2,HROW,Z5 _ _⟩
 obtain⟨r,ao,st,a,c,rfl,rfl,⟨hrl,hsm⟩,hst,hI,m,u,P⟩:=hrel;refine P9 hst hI m u P hsm fun G HI HX HRW HF HSR=>?_;by_cases an:r=[]
 .subst an;obtain⟨x0,x1,x2⟩:=HX.out.cells;cases ao
  .have u:wr.heap[B]?=Ts (Tq #[Ti Tt 0,Ti Tt 0] 56 (0,0)):=(HF.block B (Wp (UE.1 HR1).1 HE2.size) Ph).trans ((HE2.block B (UE.1 HR1).1).trans HR1);have HRR:=Tn u;refine PM u fun e0 am=>PO u fun g0 g1=>have V:Al t.heap.size wr a c []:=HRW.out;?_
   have HS0:Hid (st.a=(bF s).1/\st.b=(bF s).2):=Tn (by
    have:=HI.out.2 rfl;unfold bF;rw[this]
    exact⟨rfl,rfl⟩)
   rcases V with⟨rfl,_,rfl⟩|⟨g,off,rfl,hg,_,ah,_⟩;all_goals
    go_wp2_with fail
    refine PI wr B (ag st.a) (ag st.b) fun W5 hW5=>?_
    have L:(wr.setCell ⟨B,0,U8⟩ (ag st.a)).heap[B]?=Ts (Tq #[ag st.a,Ti Tt 0] 56 (0,0)):=(VE wr B 0 _ _ _ HRR).trans Pm
    have h1:W5.heap[B]?=Ts (Tq #[ag st.a,ag st.b] 56 (0,0)):=by rw[<-hW5];exact(VE _ B 1 _ _ _ L).trans Pm
    refine PM h1 fun q0 q1=>?_
    have HF5:Hid (aq w W5):=Tn (by
     rw[<-hW5];have k1:=Uz (S:=fun b=>b=B) wr ⟨B,0,U8⟩ (ag st.a) rfl;have k2:=Uz (S:=fun b=>b=B) (wr.setCell ⟨B,0,U8⟩ (ag st.a)) ⟨B,1,U8⟩ (ag st.b) rfl;have hB:=HB.out;have am:=(Uh (S:=fun _=>False) (aa HE1 HE2)).onto HF (fun i hi h=>Ph)
     exact(am.onto (k1.trans k2) (fun i hi h=>Ph)).ext (fun _ _ h=>h))
    rw[hW5]
    refine VC (v:=UT #[ag st.a,ag st.b]) (by simp[Vo,results10,go_sem,q0,q1]) rfl ⟨by rw[HS0.out.1,HS0.out.2],HF5⟩
  have X:=Tn (HI.step (.inl rfl));have O:=Tn (Bo (r:=[]) G.1 G.2.1 G.2.2);have V:Al t.heap.size wr a c []:=HRW.out;have em:min (2:Int) 0=0:=Pi;rcases V with⟨rfl,_,rfl⟩|⟨g,off,rfl,hg,_,ah,_⟩;all_goals
   go_upto_region 8 with fail
   go_loopw [28] (fun i wx=>i=Ti Tl 0/\wx=wr) (fun _ _=>0)
   case atStart=>exact⟨rfl,rfl⟩
   obtain⟨rfl,rfl⟩:=hrel;go_wp2_with fail;refine P2 (AD st G.1 G.2.1 G.2.2 _) fun w5 I=>have o:=HX.out.fr (Uh (S:=fun _=>False) I) (fun h=>h);P4 o I fun ac ab=>have A:Hid (J4 s false [] (Fg st)):=X;P1 (Fg st) fun M hM=>have H:=qJ st;?_;rw[hM]at A H⊢;have C:=Tn H;obtain⟨y0,y1,y2⟩:=o.cells;have f0:=o.frozen 0;have f1:=o.frozen 1;have f2:=o.frozen 2;go_wp2_with fail;have ad:=Tn (((Uz (S:=fun b=>b=B+1) w5 ⟨B+1,0,U8⟩ (ag M.a) rfl).trans (Uz (S:=fun b=>b=B+1) _ ⟨B+1,1,U8⟩ (ag M.b) rfl)).trans (Uz (S:=fun b=>b=B+1) _ ⟨B+1,2,U8⟩ (ag M.c) rfl));have Z:=Tn (HF.trans ((Uh ab).trans ad));go_roundw
   case rel=>first
    |exact⟨[],false,M,U8,0,rfl,rfl,⟨VF _,fun x m=>Zb1⟩,⟨cd C.1,cd C.2.1,cd C.2.2⟩,A,((ac.set0 M.a).set1 M.b).set2 M.c,.inl ⟨rfl,rfl,rfl⟩,Z⟩
    |exact⟨[],false,M,Ts ⟨g,off,U8⟩,c,rfl,rfl,⟨VF _,fun x m=>Zb1⟩,⟨cd C.1,cd C.2.1,cd C.2.2⟩,A,((ac.set0 M.a).set1 M.b).set2 M.c,.inr ⟨g,off,rfl,hg,VF _,ah,fun i x m=>by simp at m⟩,Z⟩
   case measure=>simp[I9,aiK]
 rcases HRW.out with⟨rfl,rfl,rfl⟩|⟨g,off,rfl,hg,J,ah,hcell⟩
 .exact absurd rfl an
 have K:=Tn hcell;have hcm':c<=9223372036854775807:=ah;have hgB:B+1<g:=by have:=hB1.out;omega
 by_cases hpos:0<r.length
 .have t1:decide ((0:Int)<(r.length:Int))=true:=by simp;omega
  have X:=Tn (HI.step (.inr (YL.1 hpos)));cases ao;all_goals
   refine P1 (min 2 r.length) fun q N=>?_
   have hq2:q<=2/\q<=r.length:=Ph
   have E:=show min (2:Int) (r.length:Int)=(q:Int)from Ph
   have hqc:q<=c:=Ph
   have HQ:=Tn N
   go_upto_region 8 with fail
   go_loopw [28] (fun i wx=>∃j:Nat,j<=q/\i=Ti Tl j/\lB wx (B+1) (oG (r.take j) st)/\Fr (fun b=>b=B+1) wr wx) (fun i _=>q-(VS i).toNat)
   case atStart=>exact⟨0,Ph,rfl,by rw[Mk];exact HX.out,Z5 _ _⟩
   obtain⟨j,Q,rfl,d,hFj⟩:=hrel;refine P4 d hFj fun al U=>?_;by_cases R:j<q
   .obtain rfl|rfl:j=0\/j=1:=by omega
    .obtain⟨x,m⟩:=ay (l:=r) rfl (show 0<r.length from Ph);have hcx:=(U.cell (p:=⟨g,off+0,U8⟩) (aR (K 0 x m)) Za6).trans (K 0 x m);simp only[Nat.add_zero]at hcx;have d:=al.out;rw[Mk]at d;have Y:=Tn d;obtain⟨d0,d1,d2⟩:=d.cells;have f0:=d.frozen 0;have HXE:=Tn m;have hxb:=HSR.out x (Uv m);go_wp2_with fail;refine(nT st.a x G.1 hxb _).mono ?_;rintro e w4⟨rfl,rfl⟩;go_wp2;go_roundw
     case rel=>exact⟨0+1,Ph,Pt,by rw[af7 st HXE.out];exact Y.out.set0 _,U.trans (Uz _ ⟨B+1,0,U8⟩ _ rfl)⟩
     case measure=>simp[VS];omega
    obtain⟨x,m⟩:=ay (l:=r) rfl (show 1<r.length from Ph);have hcx:=(U.cell (p:=⟨g,off+1,U8⟩) (aR (K 1 x m)) Za6).trans (K 1 x m);refine P1 (oG (r.take 1) st) fun F P=>have hf2:=agK st m;have W:=Bo (r:=r.take 1) G.1 G.2.1 G.2.2;have d:=al.out;?_;rw[P]at hf2 d W;refine P3 hf2 d W fun HF2 Y O=>?_;obtain⟨d0,d1,d2⟩:=d.cells;have f1:=d.frozen 1;have hxb:=HSR.out x (Uv m);go_wp2_with fail;refine(nT F.b x O.2.1 hxb _).mono ?_;rintro e w4⟨rfl,rfl⟩;go_wp2;go_roundw
    case rel=>exact⟨1+1,Ph,Pt,by rw[HF2.out];exact Y.out.set1 _,U.trans (Uz _ ⟨B+1,1,U8⟩ _ rfl)⟩
    case measure=>simp[VS];omega
   obtain rfl:j=q:=by omega
   have d:=al.out;rw[KR r st HQ.out]at d;have W:=Bo (r:=r) G.1 G.2.1 G.2.2;refine P1 (oG r st) fun F P=>?_;rw[P]at d W;refine P3 P d W fun HF1 Y O=>?_;obtain⟨d0,d1,d2⟩:=d.cells;by_cases hcj:c=j
   .subst hcj;go_wp2_with fail;refine P2 (AD F O.1 O.2.1 O.2.2 _) fun w5 I=>have o:=Y.out.fr (Uh (S:=fun _=>False) I) (fun h=>h);P4 o I fun ac ab=>have A:=X;?_;rw[HF1.out]at A;refine P1 (Fg F) fun M hM=>have H:=qJ F;?_;rw[hM]at A H⊢;have C:=Tn H;obtain⟨e0,am,e2⟩:=o.cells;have f0:=o.frozen 0;have f1:=o.frozen 1;have f2:=o.frozen 2;go_wp2_with fail;have ad:=Tn (((Uz (S:=fun b=>b=B+1) w5 ⟨B+1,0,U8⟩ (ag M.a) rfl).trans (Uz (S:=fun b=>b=B+1) _ ⟨B+1,1,U8⟩ (ag M.b) rfl)).trans (Uz (S:=fun b=>b=B+1) _ ⟨B+1,2,U8⟩ (ag M.c) rfl));have Z:=Tn (HF.trans (U.trans ((Uh ab).trans ad)));go_roundw
    case rel=>
     have y:r.drop 2=[]:=VA (by rw[VT];have:=HQ.out;omega);refine⟨r.drop 2,false,M,Ts ⟨g,off,U8⟩,0,?_,rfl,⟨Py,fun x m=>HSR.out x (List.mem_of_mem_drop m)⟩,⟨cd C.1,cd C.2.1,cd C.2.2⟩,A,((ac.set0 M.a).set1 M.b).set2 M.c,.inr ⟨g,off,rfl,hg,by rw[y];exact UY _,VF _,fun i x m=>by rw[y]at m;simp at m⟩,Z⟩;rw[y];rfl
    have:=HQ.out;simp only[I9,aiK];omega
   have hjc:j<c:=by omega
   go_wp2_with fail;refine P2 (AD F O.1 O.2.1 O.2.2 _) fun w5 I=>have o:=Y.out.fr (Uh (S:=fun _=>False) I) (fun h=>h);P4 o I fun ac ab=>have A:=X;?_;rw[HF1.out]at A;refine P1 (Fg F) fun M hM=>have H:=qJ F;?_;rw[hM]at A H⊢;have C:=Tn H;obtain⟨e0,am,e2⟩:=o.cells;have f0:=o.frozen 0;have f1:=o.frozen 1;have f2:=o.frozen 2;go_wp2_with fail;have ad:=Tn (((Uz (S:=fun b=>b=B+1) w5 ⟨B+1,0,U8⟩ (ag M.a) rfl).trans (Uz (S:=fun b=>b=B+1) _ ⟨B+1,1,U8⟩ (ag M.b) rfl)).trans (Uz (S:=fun b=>b=B+1) _ ⟨B+1,2,U8⟩ (ag M.c) rfl));refine P4 (HF.trans (U.trans ((Uh ab).trans ad))) (U.trans ((Uh ab).trans ad)) fun Z HFB=>?_;go_roundw
   case rel=>
    refine⟨r.drop 2,false,M,Ts ⟨g,off+j,U8⟩,c-j,?_,rfl,⟨Py,fun x m=>HSR.out x (List.mem_of_mem_drop m)⟩,⟨cd C.1,cd C.2.1,cd C.2.2⟩,A,((ac.set0 M.a).set1 M.b).set2 M.c,.inr ⟨g,off+j,rfl,hg,Py,VG (Nat.sub_le _ _) hcm',fun i x m=>?_⟩,Z⟩
    .rw[VT,show r.length-2=r.length-j by have:=HQ.out;omega]
    rw[YE]at m;have hi:=(UU.1 m).1;have hj2:j=2:=by have:=HQ.out;omega
    subst hj2;have h9:=K.out _ x m;rw[<-Nat.add_assoc]at h9;exact(HFB.cell (p:=⟨g,off+2+i,U8⟩) (aR h9) Za6).trans h9
   have:=HQ.out;simp only[I9,aiK];omega
 exact absurd (VA Ph) an
end
def aY.ext{s:au}(h:aY w a s)(g:aq w d):aY d a s:=fun i x m=>by
 obtain⟨b,off,h1,c⟩:=h i x m;exact⟨b,off,h1,ae c g⟩
def aY.nil(w a):aY w a []:=fun i x m=>by simp at m
def aY.news{s:au}(h:aY w a s):∀d,a=Ts d->∀(j:Nat)(u:UV),(VH s)[j]?=Ts u->w.cell? (d.add j)=Ts u:=fun d f j u X=>by
 unfold VH at X;rw[VU]at X;cases m:s[j]? with
 |none=>rw[m]at X;cases X
 |some x=>
  rw[m]at X;obtain⟨b,off,hb,c⟩:=h j x m;rw[f]at hb;cases hb;have:Ti Uy (x.toNat:Int)=u:=Zdc;rw[<-this,show((⟨b,off,U8⟩:VW).add j)=⟨b,off+j,U8⟩from by simp[Addr.add]];exact c
def fQ{base}{s:au}(hn:s.length=n)(h:w.ownsRow base 5 1 v n (VH s)):∃a c,v=Tm a n c/\n<=c/\c<=VL/\aY w a s:=by
 rcases dD h with⟨rfl,L,_⟩|⟨g,cap,rfl,S,hb,_,J,K⟩
 .have:s=[]:=VA (hn.trans L);subst this;subst L;exact⟨U8,0,rfl,UY _,VF _,aY.nil _ _⟩
 refine⟨_,_,rfl,J,K,fun i x m=>⟨g,0,rfl,?_⟩⟩;rw[VY];refine ir h S ?_;unfold VH;rw[VU,m];rfl
def dM(s:au):∀u∈VH s,u.oneCell'=true:=fun u X=>by
 unfold VH at X;obtain⟨x,_,rfl⟩:=Wl.1 X;rfl
def bC(s:au):(VH s).length=s.length:=by unfold VH;rw[VR]
def eh{s:au}(h:aY w U8 s):s.length=0:=by
 cases s with
 |nil=>rfl
 |cons c t=>
  obtain⟨b,off,h1,_⟩:=h 0 c rfl;cases h1
def aJ(w:UN)(v:UV)(s:au):Prop:=∃a c,v=Tm a s.length c/\s.length<=c/\c<=VL/\aY w a s
def aJ.ext{s:au}(h:aJ w v s)(g:aq w b):aJ b v s:=by
 obtain⟨a,c,h1,d,A,f⟩:=h;exact⟨a,c,h1,d,A,f.ext g⟩
def aJ.own{base}{s:au}(hn:s.length=n)(h:w.ownsRow base 5 1 v n (VH s)):aJ w v s:=by
 obtain⟨a,c,h1,b,A,d⟩:=fQ hn h;subst hn;exact⟨a,c,h1,b,A,d⟩
def aJ.form{s:au}(h:aJ w v s):∃a c,v=Tm a s.length c:=by
 obtain⟨a,c,h1,_⟩:=h;exact⟨a,c,h1⟩
def tg:pD au:=fun w b o p=>∃v,w.cell? ⟨b,o,U8⟩=Ts v/\aJ w v p
instance:mj tg:=⟨fun{w w' b o x}h hE=>by
 obtain⟨v,h1,h2⟩:=h
 exact⟨v,ae h1 hE,h2.ext hE⟩⟩
def fy(tag:au)(parts:List au):au:=VI tag.length::(tag++parts.flatMap fun p=>be 4 p.length++p)
def mh(tag:au)(parts:List au):cj tag parts=bF (fy tag parts):=rfl
def yI(tag:au)(ps:List au){p:au}(h:ps[k]?=Ts p):fy tag (ps.take (k+1))=fy tag (ps.take k)++(be 4 p.length++p):=by
 unfold fy;rw[aW h,Xw,Vh,Yv,Ww,<-Ws,Vu]
def Bs(tag:au)(ps:List au)(k):(fy tag (ps.take k)).length<=(fy tag ps).length:=by
 conv=>rhs;rw[<-List.take_append_drop k ps]
 unfold fy;rw[Xw];simp
def zZ(tag:au)(ps:List au){p:au}(h:ps[k]?=Ts p):(fy tag (ps.take k)).length+(4+p.length)<=(fy tag ps).length:=by
 have:=Bs tag ps (k+1);rw[yI tag ps h,Uo,Uo,aI]at this;exact this
def kB(tag:ByteArray)(ps:List au)(pa m pc w)(K:ps.length=m)(hmc:m<=pc)(htl:tag.size<=255)(t:(fy tag.data.toList ps).length<=70000000000000)(N:cr 1 tg w pa ps):
  VB UB 72 #[UH tag,Tm pa m pc] w (bM (UT #[ag (cj tag.data.toList ps).1,ag (cj tag.data.toList ps).2]) w):=by
 obtain⟨i0,hi,X,ad,ah⟩:=WN lz;refine P4 K N fun HM ab=>?_;have hmb:m<=70000000000000:=by
  have:ps.length<=(ps.flatMap fun p=>be 4 p.length++p).length:=by
   clear K t N HM ab hmc;induction ps with
   |nil=>simp
   |cons p l ih=>rw[Vh,Uo,Uo,aI,Up];omega
  unfold fy at t;rw[Up,Uo]at t;omega
 have Z:=Tn (mh tag.data.toList ps);rw[Z.out];clear K N;go_enter func72,ntmps72;go_upto_region 1 with fail;refine P1 w.heap.size fun B Q=>P1 (w.alloc (Tq #[Ti Tt 0,Ti Tt 0] 56)) fun f d=>have ac:Hid (aq w f):=Tn Pq;have HR0:Hid (f.heap[B]?=Ts (Tq #[Ti Tt 0,Ti Tt 0] 56 (0,0))):=Tn (by rw[<-d,<-Q];exact UZ w _);have HZ0:Hid (f.heap.size=B+1):=Tn (by rw[<-d,Ud,Q]);?_;rw[d,Q];have HB:=Tn Q;clear d Q;have P:tag.data.toList.length=tag.size:=Pm;have E8:((VI tag.data.toList.length).toNat:Int)=(tag.size:Int):=by rw[P];simp;omega
 have ao:[Ti Uy (tag.size:Int)]++Lib.strCells tag=VH (fy tag.data.toList (ps.take 0)):=by
  unfold fy;rw[Wk,Yv,Ww,<-E8];rfl
 have al:(fy tag.data.toList (ps.take 0)).length=1+tag.size:=by
  unfold fy;rw[Wk,Yv,Ww,Up,P];omega
 refine P4 ao al fun HCS HLN=>have H:=World.ownsRow_lit (base:=f.heap.size) (size:=1) (e:=5) f #[Ti Uy (tag.size:Int)] 1 (UY _) Pi rfl;have W:=Tn H;?_;clear H E8 P ao al
 go_wp2_with (
        at_builtin
        refine Lib.wpList_append_own_string _ rfl _ _ 37 9 rfl f.heap.size 5 i0 underlying37 underlying9 hi X ad ah _ 1 _ rfl W.out tag rfl Pr Ph Pm ?_
        go_loud (
        intro v1 w1 r A _
        have y:w1.ownsRow f.heap.size 5 1 v1 (1+tag.size) (VH (fy tag.data.toList (ps.take 0))):=by rw[<-HCS.out];exact r
        refine P4 y (ZB (af P0 _) A (fun k o=>by have c:Ts f.heap.size=Ts k:=o;cases c;exact UY _)) fun HOWN s=>?_
        clear r y A))
 go_loopw [16,5] (fun j v wr=>∃k:Nat,k<=m/\j=Ti Tl k/\wr.ownsRow f.heap.size 5 1 v (fy tag.data.toList (ps.take k)).length (VH (fy tag.data.toList (ps.take k)))/\aq f wr) (fun j _ _=>m-(VS j).toNat)
 case atStart=>exact⟨0,VF _,rfl,by rw[HLN.out];exact HOWN.out,s⟩
 obtain⟨k,o,rfl,r,g⟩:=hrel;refine P4 r g fun HO ys=>?_;clear r g;by_cases R:k<m
 .obtain⟨p,x⟩:=ay HM R;obtain⟨pb,po,hpa,pv,J,hv⟩:=(ab.ext ac) k p x;obtain⟨qa,qc,rfl,hq1,hq2,hq3⟩:=hv;subst hpa;have hle:=zZ tag.data.toList ps x;have hsn:=yI tag.data.toList ps x;have z:=ae J ys;refine P4 hsn hq3 fun HSN Y=>P1 (fy tag.data.toList (ps.take k)) fun S I=>?_;rw[I]at HO HSN hle;simp only[XT]at z;unfold VL at hq2;have hEs:=ys.out.size;clear x J hsn hq3 I;go_wp2_with fail;refine(zU f.heap.size S _ p.length 4 _ Ph Ph Ph hEs HO).mono ?_;rintro e E⟨v2,rfl,hg⟩;have HG:=Tn hg;have D:=hg.ext ys (UY _) (bE HO);have F:=Tn D;have V:=D.size;clear hg D z
  go_wp2_with (
         at_builtin
         refine aX rfl _ _ 37 rfl f.heap.size 5 i0 (Ti Uy 0) 1 1 underlying37 hi X ad ah rfl Pi _ _ _ rfl HG.out.own qa p.length qc (VH p) rfl (by rw[bC,XT]) (aY.news (Y.ext F)) (fun e=>by subst e;exact eh Y) (dM p) (by rw[Uo,aI];unfold VL;omega) (by rw[Uo,aI];omega) V ?_
         intro v3 w3 C q
         refine P4 C (ZB F q (bE HG.own)) fun HO3 Id=>?_
         clear C q)
  go_roundw
  case rel=>
   refine⟨k+1,Ph,Pt,?_,Id⟩;rw[HSN.out,<-Ws,Lib.byteCells_append,Uo];exact HO3.out
  case measure=>simp[VS];omega
 obtain rfl:k=m:=by omega
 refine P1 (fy tag.data.toList ps) fun S I=>?_;rw[VD Zae,I]at HO;rw[I]at t;have HSS:=Tn I;obtain⟨a5,c5,rfl,hc5,_,an⟩:=fQ rfl HO.out;have HB5:=Tn an;clear I an;go_wp2_with fail;refine P2 (Hx S a5 _ c5 _ rfl hc5 t HB5) fun E D=>have F:=Tn (aa ys D);?_;clear D;have u:=(F.block B (by have:=HZ0.out;omega)).trans HR0;have HRR:=Tn u;refine PM u fun e0 am=>PO u fun g0 g1=>P1 ((bF S).1) fun s1 M=>P1 ((bF S).2) fun T O=>P4 M O fun HS1 HS2=>?_;rw[M,O];clear u M O;go_wp2_with fail;refine PI E B (ag s1) (ag T) fun U G=>have L:(E.setCell ⟨B,0,U8⟩ (ag s1)).heap[B]?=Ts (Tq #[ag s1,Ti Tt 0] 56 (0,0)):=(VE E B 0 _ _ _ HRR).trans Pm;?_;have h1:U.heap[B]?=Ts (Tq #[ag s1,ag T] 56 (0,0)):=by rw[<-G];exact(VE _ B 1 _ _ _ L).trans Pm
 refine PM h1 fun q0 q1=>?_
 have HF5:Hid (aq w U):=Tn (by
  rw[<-G];have k1:=Uz (S:=fun b=>b=B) E ⟨B,0,U8⟩ (ag s1) rfl;have k2:=Uz (S:=fun b=>b=B) (E.setCell ⟨B,0,U8⟩ (ag s1)) ⟨B,1,U8⟩ (ag T) rfl;have Q:=HB.out
  exact((Uh (S:=fun _=>False) (aa ac F)).onto (k1.trans k2) (fun i hi h=>Ph)).ext (fun _ _ h=>h))
 rw[G];clear G L h1 e0 am g0 g1;refine VC (v:=UT #[ag s1,ag T]) (by simp[Vo,results72,go_sem,q0,q1]) rfl ⟨by rw[HSS.out,HS1.out,HS2.out],HF5⟩
def bz{B:Nat}{y:UV}(j:c.heap[B]?=Ts (Tq #[x,y] t (0,0)))(l:w.heap.size<=B)(g:aq w c)(u v:UV):
  ((c.setCell ⟨B,0,U8⟩ u).setCell ⟨B,1,U8⟩ v).heap[B]?=Ts (Tq #[u,v] t (0,0))/\aq w ((c.setCell ⟨B,0,U8⟩ u).setCell ⟨B,1,U8⟩ v):=by
 have L:(c.setCell ⟨B,0,U8⟩ u).heap[B]?=Ts (Tq #[u,y] t (0,0)):=(VE c B 0 _ _ _ j).trans Pm;refine⟨(VE _ B 1 _ _ _ L).trans Pm,?_⟩;have f:=Uz (S:=fun b=>b=B) c ⟨B,0,U8⟩ u rfl;have d:=Uz (S:=fun b=>b=B) (c.setCell ⟨B,0,U8⟩ u) ⟨B,1,U8⟩ v rfl;exact((Uh (S:=fun _=>False) g).onto (f.trans d) (fun i hi h=>Ph)).ext (fun _ _ h=>h)
def Aq(n k j:Nat):UV:=if 8<=j+k then Ti Uy ((VI (n/256^(7-j))).toNat:Int)else Ti Uy 0
def Ee(n k:Nat):Array UV:=#[Aq n k 0,Aq n k 1,Aq n k 2,Aq n k 3,Aq n k 4,Aq n k 5,Aq n k 6,Aq n k 7]
def agD(n):Ee n 0=#[Ti Uy 0,Ti Uy 0,Ti Uy 0,Ti Uy 0,Ti Uy 0,Ti Uy 0,Ti Uy 0,Ti Uy 0]:=rfl
def JR(n k)(h:k<8):(Ee n k).setIfInBounds (7-k) (Ti Uy ((VI (n/256^k)).toNat:Int))=Ee n (k+1):=by
 obtain rfl|rfl|rfl|rfl|rfl|rfl|rfl|rfl:k=0\/k=1\/k=2\/k=3\/k=4\/k=5\/k=6\/k=7:=Ph;all_goals rfl
def M6(n)(j:Nat)(x:UInt8)(h:(be 8 n)[j]?=Ts x):(Ee n 8)[j]?=Ts (Ti Uy (x.toNat:Int)):=by
 have Q:=(UU.1 h).1;rw[aI]at Q;obtain rfl|rfl|rfl|rfl|rfl|rfl|rfl|rfl:j=0\/j=1\/j=2\/j=3\/j=4\/j=5\/j=6\/j=7:=Ph;all_goals(obtain rfl:=Vm h;rfl)
def zD{b:Nat}(h:w.heap[b]?=Ts (Tq (Ee n 8) t (0,0))):aJ w (Tm (Ts ⟨b,0,U8⟩) 8 8) (be 8 n):=by
 refine⟨_,8,by rw[aI],by rw[aI];exact UY _,Pi,fun i x m=>⟨b,0,rfl,?_⟩⟩;rw[VY];unfold Wc;rw[h];exact M6 n i x m
def sj(n)(hn:n<2^64)(w):
  VB UB 154 #[ag n] w (fun e m=>∃v,e=UO v/\aJ m v (be 8 n)/\aq w m):=by
 refine P1 w.heap.size fun B d=>P4 d hn fun r x=>P1 (w.alloc (Tq #[Ti Uy 0,Ti Uy 0,Ti Uy 0,Ti Uy 0,Ti Uy 0,Ti Uy 0,Ti Uy 0,Ti Uy 0] 305)) fun t T=>have Z:Hid (t.heap[B]?=Ts (Tq (Ee n 0) 305 (0,0))):=Tn (by rw[<-T,<-d,agD];exact UZ w _);have s:Hid (aq w t):=Tn QA;?_;go_enter func154,ntmps154;go_wp2_with fail;try rw[T]
 try rw[d]
 go_loopw [5] (fun i wr=>∃k:Nat,k<=8/\i=Ti Tl k/\wr.heap[B]?=Ts (Tq (Ee n k) 305 (0,0))/\aq w wr) (fun i _=>8-(VS i).toNat)
 case atStart=>exact⟨0,Ph,rfl,Z,s⟩
 obtain⟨k,o,rfl,u,g⟩:=hrel;refine P4 u g fun c ys=>?_;by_cases R:k<8
 .have am:(7:Int)-(k:Int)=((7-k:Nat):Int):=by omega
  have l:7-k<8:=Ph;have f:=Tn (In n k);refine P1 (7-k) fun q N=>?_;rw[N]at am l;have p:=Tn N;have J:wr.cell? ⟨B,q,U8⟩=Ts (Aq n k q):=by
   unfold Wc;rw[c.out];obtain rfl|rfl|rfl|rfl|rfl|rfl|rfl|rfl:q=0\/q=1\/q=2\/q=3\/q=4\/q=5\/q=6\/q=7:=Ph;all_goals rfl
  have cf:=VQ wr B q _ _ c;go_wp2_with fail;rw[f.out];go_roundw
  case rel=>
   refine⟨k+1,Ph,Pt,?_,((Uh (S:=fun _=>False) ys).onto (Uz (S:=fun b=>b=B) wr ⟨B,q,U8⟩ _ rfl) (fun i hi h=>by have:=r.out;omega)).ext (fun _ _ h=>h)⟩;rw[<-JR n k R,p.out];exact VE wr B q _ _ _ c
  case measure=>simp[VS];omega
 obtain rfl:k=8:=by omega
 have j:=Tn (zD c);go_wp2;go_ret;exact⟨_,rfl,j,ys⟩
def acP(s)(w:UN):VB UB 75 #[ag s] w (jO (U1 (decide (s=0\/Rp<=s))) w):=by
 by_cases L:s=0
 .subst L;unfold ag jO;go_enter func75,ntmps75;exact Tr
 have d:((s:Int)==0)=false:=by simp;omega
 by_cases h1:Rp<=s
 .have b:1152921504606845789<=s:=h1;have c:decide ((1152921504606845789:Int)<=(s:Int))=true:=Pp;have Z:=Tn (show decide (s=0\/Rp<=s)=true by simp[h1]);rw[Z.out];unfold ag jO;go_enter func75,ntmps75;exact Tr
 have b:¬1152921504606845789<=s:=h1;have c:decide ((1152921504606845789:Int)<=(s:Int))=false:=Pp;have Z:=Tn (show decide (s=0\/Rp<=s)=false by simp[h1,L]);rw[Z.out];unfold ag jO;go_enter func75,ntmps75;exact Tr
def Ci(tag:ByteArray)(ps:List au)(pa m pc w)(K:ps.length=m)(f:m<=pc)(l:tag.size<=255)(j:(fy tag.data.toList ps).length<=70000000000000)(d:cr 1 tg w pa ps):
  VB UB 70 #[UH tag,Tm pa m pc] w (bM (ag (jE tag.data.toList ps)) w):=by
 refine P5 K d (lk (fy tag.data.toList ps)) (mh tag.data.toList ps) fun u g p c=>?_;go_enter func70,ntmps70;go_wp2_with fail;refine P2 (kB tag ps pa m pc w u f l j g) fun x q=>have s:=Tn q;?_;go_wp2_with fail;refine(uC (cj tag.data.toList ps) 1152921504606845788 (by rw[c.out];exact cd p.1) (by rw[c.out];exact cd p.2) Pi Pi _).mono ?_;rintro e y⟨rfl,D⟩;have F:=Tn D;have b:jh (cj tag.data.toList ps) 1152921504606845788<1152921504606845788:=kX Pi;have o:Hid (jE tag.data.toList ps=jh (cj tag.data.toList ps) 1152921504606845788+1):=Tn rfl;refine P1 (jh (cj tag.data.toList ps) 1152921504606845788) fun n hn=>?_;rw[hn]at b o⊢;have r:n<1152921504606845788:=b;have t:=Tn hn;unfold ag;go_wp2;go_ret;exact⟨by rw[o.out];rfl,aa s F⟩
def pr{ps:List au}(c:vs.length=ps.length)(h:∀(i:Nat)(v:UV)(p:au),vs[i]?=Ts v->ps[i]?=Ts p->aJ w v p)(T):
  cr 1 tg (w.alloc (Tq vs.toArray T)) (Ts ⟨w.heap.size,0,U8⟩) ps:=fun i p x=>by
 refine⟨_,_,rfl,?_⟩;obtain⟨v,b⟩:=ay c (UU.1 x).1;refine⟨v,?_,(h i v p b x).ext (af P0 _)⟩;unfold Wc;rw[show(w.alloc (Tq vs.toArray T)).heap[(⟨w.heap.size,0+i*1,U8⟩:VW).block]?=Ts (Tq vs.toArray T (0,0))from UZ w _];simp only[VY,XT];rw[<-b];simp
def aaF{p:au}(h:aJ w v p)(T:WR):cr 1 tg (w.alloc (Tq #[v] T)) (Ts ⟨w.heap.size,0,U8⟩) [p]:=
 pr (vs:=[v]) rfl (fun i x y m U=>by
  have:=(UU.1 m).1;obtain rfl:i=0:=TF
  cases m;cases U;exact h) T
def LV{p q:au}(h:aJ w v p)(k:aJ w u q)(T:WR):cr 1 tg (w.alloc (Tq #[v,u] T)) (Ts ⟨w.heap.size,0,U8⟩) [p,q]:=
 pr (vs:=[v,u]) rfl (fun i x y m U=>by
  have:=(UU.1 m).1;obtain rfl|rfl:i=0\/i=1:=TF
  .cases m;cases U;exact h
  cases m;cases U;exact k) T
def afU{p q r:au}(h:aJ w v p)(k:aJ w u q)(j:aJ w x r)(T:WR):cr 1 tg (w.alloc (Tq #[v,u,x] T)) (Ts ⟨w.heap.size,0,U8⟩) [p,q,r]:=
 pr (vs:=[v,u,x]) rfl (fun i x y m U=>by
  have:=(UU.1 m).1;obtain rfl|rfl|rfl:i=0\/i=1\/i=2:=TF
  .cases m;cases U;exact h
  .cases m;cases U;exact k
  cases m;cases U;exact j) T
def agT{p q r s:au}(h:aJ w v p)(k:aJ w u q)(j:aJ w x r)(l:aJ w z s)(T:WR):cr 1 tg (w.alloc (Tq #[v,u,x,z] T)) (Ts ⟨w.heap.size,0,U8⟩) [p,q,r,s]:=
 pr (vs:=[v,u,x,z]) rfl (fun i x y m U=>by
  have:=(UU.1 m).1;obtain rfl|rfl|rfl|rfl:i=0\/i=1\/i=2\/i=3:=TF
  .cases m;cases U;exact h
  .cases m;cases U;exact k
  .cases m;cases U;exact j
  cases m;cases U;exact l) T
def zK(t p:au):(fy t [p]).length=5+t.length+p.length:=Sj
def KT(t p q:au):(fy t [p,q]).length=9+t.length+p.length+q.length:=Sj
def Lv(t p q r:au):(fy t [p,q,r]).length=13+t.length+p.length+q.length+r.length:=Sj
def J7(t p q r s:au):(fy t [p,q,r,s]).length=17+t.length+p.length+q.length+r.length+s.length:=Sj
def uQ(v)(s:au)(w)(z:aJ w v s)(p:s.length<=60000000000000):
  VB UB 20 #[v] w (bM (ag (jE iU [s])) w):=by
 have b:=Tn z;obtain⟨f,d,rfl⟩:=b.out.form;go_enter func20,ntmps20;go_wp2_with fail;refine(Ci ⟨#[115,101,99,114,101,116]⟩ [s] _ 1 1 _ rfl Pi Pi (by rw[zK];show 5+6+_<=_;omega) (aaF b _)).mono ?_;rintro e c⟨rfl,g⟩;exact Zfb
def qr(s)(w:UN)(L:0<s)(h1:s<Rp):VB UB 22 #[ag s] w (bM (UW #[ag (base s),Ti Tl 0]) w):=by
 have d:=Tn (show decide (s=0\/Rp<=s)=false from Pp);have hb:s<2^64:=WF h1 Pi;have c:=Tn hb;go_enter func22,ntmps22;go_wp2_with fail;refine(acP s _).mono ?_;rintro e b⟨rfl,rfl⟩;rw[d.out];go_wp2_with fail;refine P2 (lT s c _) fun b g=>have ys:=Tn g;?_;go_wp2;go_ret2
 exact⟨rfl,ys⟩
def lO(c p v)(m:au)(w)(J:c<2^64)(x:p<2^64)(K:aJ w v m)(B:m.length<=60000000000000):
  VB UB 155 #[ag c,ag p,v] w (bM (ag (dP c p m)) w):=by
 refine P3 K (lk (fy Dm [be 8 c,be 8 p,m])) (mh Dm [be 8 c,be 8 p,m]) fun t r g=>have u:Hid (dP c p m=jh (cj Dm [be 8 c,be 8 p,m]) Rp):=Tn rfl;?_;rw[u.out];obtain⟨ma,mc,rfl⟩:=t.out.form;go_enter func155,ntmps155;go_wp2_with fail;refine(sj c J _).mono ?_;rintro e y⟨A,rfl,f,q⟩;refine P4 f q fun l s=>?_;obtain⟨a1,c1,rfl⟩:=l.out.form;go_wp2_with fail;refine(sj p x _).mono ?_;rintro e C⟨v2,rfl,d,D⟩;refine P4 d D fun j F=>?_;obtain⟨a2,c2,rfl⟩:=j.out.form;go_wp2_with fail;refine(kB ⟨#[115,105,103,110]⟩ [be 8 c,be 8 p,m] _ 3 3 _ rfl Pi Pi (by rw[Lv,aI,aI];show 13+4+_+_+_<=_;omega) (afU (l.ext F) j (t.ext (aa s F)) _)).mono ?_;rintro e E⟨rfl,V⟩;have Id:=Tn V;go_wp2_with fail;refine(uC (cj Dm [be 8 c,be 8 p,m]) 1152921504606845789 (by rw[g.out];exact cd r.1) (by rw[g.out];exact cd r.2) Pi Pi _).mono ?_;rintro e z⟨rfl,b⟩;have o:=Tn b;go_wp2;go_ret;exact⟨rfl,aa (aa s (aa F (af P0 _))) (aa Id o)⟩
def pw(n):base n<2^64:=WF (rS Pi _ _) Pi
def mF(c p)(m:au):dP c p m<Rp:=kX Pi
def ip{a:Nat}(h:a<Rp):a<2^64:=WF h Pi
def abN(s v)(m:au)(w)(L:0<s)(h1:s<Rp)(K:aJ w v m)(p:m.length<=60000000000000):
  VB UB 91 #[ag s,v] w (bM (UW #[UT #[ag (lW s m).e,ag (lW s m).s],Ti Tl 0]) w):=by
 refine P3 K (ip h1) h1 fun W HB H1=>?_;obtain⟨ma,mc,rfl⟩:=W.out.form;refine P1 w.heap.size fun B H=>P1 (w.alloc (Tq #[Ti Tt 0,Ti Tt 0] 95)) fun f d=>have b:Hid (aq w f):=Tn Pq;have P:Hid (f.heap[B]?=Ts (Tq #[Ti Tt 0,Ti Tt 0] 95 (0,0))):=Tn (by rw[<-d,<-H];exact UZ w _);have X:Hid (f.heap.size=B+1):=Tn (by rw[<-d,Ud,H]);?_;go_enter func91,ntmps91;go_upto_region 1 with fail;try rw[d]
 try rw[H]
 have S:=Tn H;go_wp2_with fail;refine P2 (qr s _ L H1) fun w1 q=>have R:=Tn q;?_;go_wp2_with fail;refine(sj s HB _).mono ?_;rintro e w2⟨v2,rfl,x,D⟩;refine P4 x (aa R D) fun A F=>?_;obtain⟨a2,c2,rfl⟩:=A.out.form;go_wp2_with fail;refine(Ci ⟨#[110,111,110,99,101]⟩ [be 8 s,m] _ 2 2 _ rfl Pi Pi (by rw[KT,aI];show 9+5+_+_<=_;omega) (LV A (W.ext (aa b F)) _)).mono ?_;rintro e w3⟨rfl,V⟩;have Id:=Tn (aa F (aa (af P0 _) V));have l:=(D7 Fw [be 8 s,m]).2;refine P1 (jE Fw [be 8 s,m]) fun n hn=>have I:Hid (lW s m=⟨dP (base n) (base s) m,mM (gV (dP (base n) (base s) m) s) n⟩):=Tn (by unfold lW;rw[hn]);have C:jE (⟨#[110,111,110,99,101]⟩:ByteArray).data.toList [be 8 s,m]=n:=hn;?_;rw[C];rw[hn]at l;have O:=Tn (ip l);go_wp2_with fail;refine P2 (lT n O _) fun w4 r=>have G:=Tn (aa Id r);?_;go_wp2_with fail;refine P2 (lO (base n) (base s) _ m _ (pw _) (pw _) (W.ext (aa b G)) p) fun w5 y=>have U:=Tn (aa G y);P1 (dP (base n) (base s) m) fun c J=>have j:=mF (base n) (base s) m;?_;rw[J]at I j⊢;have Q:=Tn (ip j);go_wp2_with fail;refine P2 (jb c s Q HB _) fun w6 M=>have Y:=Tn (aa U M);?_;go_wp2_with fail;refine P2 (vy _ n _) fun z t=>have o:=Tn (aa Y t);have u:=(o.block B (by have:=X.out;omega)).trans P;have Z:=Tn u;PM u fun e0 am=>PO u fun g0 g1=>P1 (mM (gV c s) n) fun a T=>have HA:=Tn T;?_;rw[T];go_wp2_with fail;have E:=bz Z (by have:=S.out;omega) (aa b o) (ag c) (ag a);refine PI z B (ag c) (ag a) fun N g=>?_;rw[g]at E;refine PM E.1 fun q0 q1=>have HX:=Tn E.2;?_;rw[g];exact VC (v:=UW #[UT #[ag c,ag a],Ti Tl 0]) (by simp[Vo,results91,go_sem,q0,q1]) rfl ⟨by rw[I.out,HA.out],HX⟩
def NU{p}(h:p<Qp)(L:p≠0):Io p=ui Qp p:=by unfold Io;rw[if_neg (by rw[Yj h];exact L)]
def abM{p}(L:p%Qp≠0):ui Qp p<2^64:=by
 have m:0<p%Qp:=Ph;have h:=vP Qp (p%Qp) Qp 1 0 true Qp m Pi Ph;unfold ui Hh;have N:Qp=2305843009213691579:=rfl;split<;>omega
def Gp(j v)(m:au)(g:Sg)(w)(x:j<2^64)(Y:g.e<2^64)(z:g.s<2^64)(K:aJ w v m)(hl:m.length<=60000000000000):
  VB UB 186 #[ag j,v,UT #[ag g.e,ag g.s]] w (bM (Ti Tl (lI j m g)) w):=by
 have HM:=Tn K;clear K;obtain⟨ge,gs⟩:=g;dsimp only at Y z⊢;refine P1 w.heap.size fun B U=>P1 (w.alloc (Tq #[ag ge,ag gs] 95)) fun f d=>have t:Hid (aq w f):=Tn Pq;?_;have C:f.heap[B]?=Ts (Tq #[ag ge,ag gs] 95 (0,0)):=by rw[<-d,<-U];exact UZ w _
 refine P4 (cell_of_row f B 0 _ _ _ C) (cell_of_row f B 1 _ _ _ C) fun P W=>?_;go_enter func186,ntmps186;go_upto_region 1 with(fail);try rw[d]
 try rw[U]
 clear d U C;go_wp2_with fail;refine(vv j x _).mono ?_;rintro e X⟨rfl,q⟩;have E:=Tn q;have c0:X.cell? ⟨B,0,U8⟩=Ts (ag ge):=ae P q;have c1:X.cell? ⟨B,1,U8⟩=Ts (ag gs):=ae W q;clear q;cases r:sL j with
 |false=>
  have Z:=Tn (show lI j m ⟨ge,gs⟩=1 by unfold lI;rw[r];rfl);clear r;go_wp2_with fail;go_ret;exact⟨Ps,aa t E⟩
 |true=>
  have M:max (ge:Int) (gs:Int)=((max ge gs:Nat):Int):=Ph;by_cases o:Rp<=max ge gs
  .have Z:=Tn (show lI j m ⟨ge,gs⟩=40 by unfold lI;rw[r];simp[o]);have R:1152921504606845789<=max ge gs:=o;have t1:decide ((1152921504606845789:Int)<=max (ge:Int) (gs:Int))=true:=Pp;clear r o M;go_wp2_with fail;go_ret;exact⟨Ps,aa t E⟩
  have R:¬1152921504606845789<=max ge gs:=o;have t1:decide ((1152921504606845789:Int)<=max (ge:Int) (gs:Int))=false:=Pp;have Z:=Tn (show lI j m ⟨ge,gs⟩=if ii Qp j ge=0 then 40 else if dP (pC (base gs) (ui Qp (ii Qp j ge))) j m=ge then 0 else 40 by unfold lI;rw[r];simp[o]);clear r o M;go_wp2_with fail;refine(oT j ge x Y _).mono ?_;rintro e w2⟨rfl,D⟩;have G:=rS (m:=Qp) Pi j ge;refine P1 (ii Qp j ge) fun p L=>?_;rw[L]at G Z⊢;refine P4 G (aa E D) fun y F=>?_;replace c0:=ae c0 D;replace c1:=ae c1 D
  clear L G D t1;go_wp2_with fail;refine(O1 p _).mono ?_;rintro e w3⟨rfl,rfl⟩;by_cases H:p=0
  .subst H;rw[if_pos (show 0%Qp=0 from Pi)];go_wp2_with fail;refine aZ Pg Pg (fun b=>aq w3 b) ((Xg (fun _=>False) _).ext (fun _ _ h=>h)) ?_;repeat
    (first|refine az rfl rfl rfl rfl ?_|refine aF rfl rfl rfl rfl ?_|refine aw rfl ?_|refine aj rfl rfl rfl rfl rfl ?_|((first|refine av (v:=?_) rfl rfl (fun hb b l=>?_) ?_|refine ar (v:=?_) rfl rfl rfl (fun S hb b l=>?_) ?_|refine ax (v:=?_) rfl (fun b l=>?_) ?_);rotate_left;(focus(have f0:=ae c0 l;unfold ak;go_simp;first|exact aD l))))
    simp only[Ua,P7]
   refine aA fun b u=>?_;go_wp2_with fail;go_ret;exact⟨Ps,aa t (aa F u)⟩
  rw[if_neg H]at Z;rw[if_neg S1,NU y.out H];have A:=abM (p:=p) S1;refine P1 (ui Qp p) fun i hi=>?_;rw[hi]at A Z⊢;have Q:=Tn A;clear hi A H;go_wp2_with fail;refine aZ Pg Pg (fun b=>aq w3 b) ((Xg (fun _=>False) _).ext (fun _ _ h=>h)) ?_;repeat
   (first|refine az rfl rfl rfl rfl ?_|refine aF rfl rfl rfl rfl ?_|refine aw rfl ?_|refine aj rfl rfl rfl rfl rfl ?_|((first|refine av (v:=?_) rfl rfl (fun hb b l=>?_) ?_|refine ar (v:=?_) rfl rfl rfl (fun S hb b l=>?_) ?_|refine ax (v:=?_) rfl (fun b l=>?_) ?_);rotate_left;(focus(have f0:=ae c0 l;have f1:=ae c1 l;unfold ak;go_simp;first|exact aD l|(go_at_call 39;refine(lT gs z _).mono ?_;rintro e J⟨rfl,c⟩;exact aH (aa l c))|(go_at_call 121;refine(rQ _ i (pw _) Q _).mono ?_;rintro e J⟨rfl,c⟩;exact aH (aa l c))|(go_at_call 155;refine(lO _ j v m _ (WF (Wf _ Pi) Pi) x (HM.ext (aa t (aa F l))) hl).mono ?_;rintro e J⟨rfl,c⟩;exact aH (aa l c))))))
   simp only[Ua,P7]
  refine aA fun b u=>P1 (dP (base gs*i%Qp) j m) fun T V=>have O:dP (pC (base gs) i) j m=T:=V;?_;rw[O]at Z;rw[V];clear V O;have I:=Tn (aa t (aa F u));clear u c0 c1;by_cases N:T=ge
  .rw[if_pos N]at Z;have t5:((T:Int) !=(ge:Int))=false:=by rw[N];simp
   exact Zfl
  rw[if_neg N]at Z;have t5:((T:Int) !=(ge:Int))=true:=Pp;exact Zfl
def mu(l:List bq):List UV:=l.flatMap fun s=>[Ti Tl s.id,ag s.x]
def xH(l)(s:bq):mu (l++[s])=mu l++[Ti Tl s.id,ag s.x]:=by simp[mu]
def M4{base}{l:List bq}(hn:l.length=n)(p:∀s∈l,s.x<2^64)(h:w.ownsRow base 39 2 v n (mu l)):∃a c,v=Tm a n c/\n<=c/\c<=VL/\cr 2 eF w a l:=by
 obtain⟨a,c,h1,d,A,g⟩:=kZ (m:=2) (R:=eF) (cells:=fun s:bq=>[Ti Tl s.id,ag s.x]) (fun _=>rfl) (fun b o x f J=>⟨QR,J 1 _ rfl,p x f⟩) hn h;rw[hn]at h1 d;exact⟨a,c,h1,d,A,g⟩
def IV:(UB.info? 39).map (fun i=>(i.zero,i.size,i.bytes))=Ts (Ts (UT #[Ti Tl 0,Ti Tt 0]),2,16):=Pg
def NT(s:bq)(w:UN)(m:s.x<2^64):VB UB 78 #[eU s] w (bM (eU ⟨s.id,base s.x⟩) w):=by
 unfold eU;refine P1 w.heap.size fun B q=>P1 ((w.alloc (Tq #[Ti Tl s.id,ag s.x] 39)).alloc (Tq #[Ti Tl 0,Ti Tt 0] 39)) fun f d=>have r:Hid (aq w f):=Tn Pz;have o:Hid (f.heap[B]?=Ts (Tq #[Ti Tl s.id,ag s.x] 39 (0,0))):=Tn (by rw[<-d,<-q];exact(Below.heap_alloc _ _ _ Pm).trans (UZ w _));?_
 have p:Hid (f.heap[B+1]?=Ts (Tq #[Ti Tl 0,Ti Tt 0] 39 (0,0))):=Tn (by
  rw[<-d,<-q];have:=UZ (w.alloc (Tq #[Ti Tl s.id,ag s.x] 39)) (Tq #[Ti Tl 0,Ti Tt 0] 39)
  rwa[Ud]at this)
 go_enter func78,ntmps78;go_upto_region 1 with fail;try rw[d]
 try rw[q]
 have z:=Tn q;refine tD 6 7 Pg Pg Pg rfl Pg (fun b=>aq f b) (fun b=>b.heap[B+1]?=Ts (Tq #[Ti Tl s.id,ag (base s.x)] 39 (0,0))/\aq w b) ((Xg (fun _=>False) _).ext (fun _ _ h=>h)) ?_;simp only[Xx,Wk];iterate 6
  (first|refine az rfl rfl rfl rfl ?_|refine aF rfl rfl rfl rfl ?_|refine aw rfl ?_|refine aj rfl rfl rfl rfl rfl ?_|refine dS rfl rfl rfl rfl rfl ?_|((first|refine av (v:=?_) rfl rfl (fun hb b l=>?_) ?_|refine ar (v:=?_) rfl rfl rfl (fun y hb b l=>?_) ?_|refine ax (v:=?_) rfl (fun b l=>?_) ?_);rotate_left;(focus(refine PM ((l.block B (UE.1 o).1).trans o) fun f0 A=>?_;unfold ak;go_simp;first|exact aD l|(go_at_call 39;refine(lT s.x m _).mono ?_;rintro e t⟨rfl,c⟩;exact aH (aa l c))))))
  simp only[Ua,P7]
 refine IX (v:=undef) U8 rfl rfl rfl (fun b l=>?_) (fun b l=>?_)
 .have u:=(l.block (B+1) (UE.1 p).1).trans p;exact PM u fun D am=>PO u fun C g1=>have E:=bz u (by have:=z.out;omega) (aa r l) (Ti Tl s.id) (ag (base s.x));have j:=Tn E;Zcn
 obtain⟨u,g⟩:=l;refine PM u fun q0 q1=>have ys:=Tn g;?_;simp only[Ua];go_wp2;exact VC (v:=UT #[Ti Tl s.id,ag (base s.x)]) (by simp[Vo,results78,go_sem,q0,q1]) rfl ⟨rfl,ys⟩
def xV(l:List bq)(a n cap w)(O:l.length=n)(T:n<=cap)(hn:n<=1000000000)(h:cr 2 eF w a l):
  VB UB 77 #[Tm a n cap,.func (.func 78) #[] #[]] w (fun e M=>∃v,e=UO v/\M.ownsRow w.heap.size 39 2 v n (mu (gA l))/\aq w M):=by
 obtain⟨i0,hi,C,u,z⟩:=WN IV;refine P4 O h fun N H=>?_;go_enter func77,ntmps77;go_wp2_with fail;refine P1 (w.alloc (Tq #[] 39)) fun f d=>have B:Hid (aq w f):=Tn Pq;?_
 have y:Hid (f.ownsRow w.heap.size 39 2 (Tm (Ts ⟨w.heap.size,0,U8⟩) 0 0) 0 []):=Tn (by
  rw[<-d];exact World.ownsRow_lit (base:=w.heap.size) (size:=2) (e:=39) w #[] 0 (UY _) Pi rfl)
 rw[d];go_loopw [11,5] (fun j v wr=>∃k:Nat,k<=n/\j=Ti Tl k/\wr.ownsRow w.heap.size 39 2 v k (mu (gA (l.take k)))/\aq w wr) (fun j _ _=>n-(VS j).toNat)
 case atStart=>exact⟨0,VF _,rfl,y,B⟩
 obtain⟨k,o,rfl,r,g⟩:=hrel;refine P4 r g fun P ys=>have G:=g.size;?_;by_cases R:k<n
 .obtain⟨x,m⟩:=ay N R;obtain⟨b,off,rfl,E,J,K⟩:=(H.ext ys) k x m;have S:=Tn (aW m);go_wp2_with fail;refine P2 (NT x _ K) fun W D=>have F:=Tn (aa (af P0 _) D);have t:=Tn (ee P F);have L:=VG G F.size;?_;unfold eU;refine P1 (base x.x) fun p I=>have U:=Tn I;?_;rw[I];go_wp2_with (at_builtin;refine wpList_append_own_at _ rfl _ _ 31 rfl w.heap.size 39 i0 (UT #[Ti Tl 0,Ti Tt 0]) 2 16 underlying31 hi C u z rfl Pi _ _ _ rfl (t.alloc _) ⟨W.heap.size,0,U8⟩ 1 1 [Ti Tl x.id,ag p] rfl rfl (pI _ _ _ _) Pu Pr Ph Pp ?_;intro X Q q c _ s;refine P4 q (ZB (af (aa ys F) _) c (bE (t.alloc (Tq #[Ti Tl x.id,ag p] 39)))) fun A Id=>?_)
  go_roundw
  case rel=>
   refine⟨k+1,Ph,Pt,?_,Id⟩;rw[S.out];unfold gA;rw[WK,WI,Ym,xH,U.out];exact A.out
  case measure=>simp[VS];omega
 obtain rfl:k=n:=by omega
 have V:=Tn (VD (l:=l) (i:=k) (by rw[N.out];exact UY _));go_wp2;go_ret;exact⟨_,rfl,by have:=P.out;rw[V.out]at this;exact this,ys⟩
def fv{α:Type}{p:α->Bool}{l:List α}{x:α}(h:l[k]?=Ts x):(l.take (k+1)).all p=((l.take k).all p&&p x):=by
 rw[aW h,List.all_append];simp
def sG{α:Type}{p:α->Bool}{l:List α}{x:α}(h:l[k]?=Ts x)(b:p x=false):l.all p=false:=by
 rw[List.all_eq_false];exact⟨x,Uv h,by simp[b]⟩
def OR(l:List bq)(a n cap w)(p:l.length=n)(q:n<=cap)(hn:n<=1000000000)(h:cr 2 eF w a l):
  VB UB 76 #[Tm a n cap] w (bM (U1 (aj0 l)) w):=by
 refine P4 p h fun f H=>?_;go_enter func76,ntmps76;go_wp2;go_loopw [7] (fun j wr=>∃k:Nat,k<=n/\j=Ti Tl k/\(l.take k).all (fun s=>decide (s.x<Rp))=true/\aq w wr) (fun j _=>n-(VS j).toNat)
 case atStart=>exact⟨0,VF _,rfl,rfl,P0⟩
 obtain⟨k,o,rfl,d,g⟩:=hrel;refine P4 d g fun t ys=>?_;by_cases R:k<n
 .obtain⟨x,m⟩:=ay f R;obtain⟨b,off,rfl,B,E,I⟩:=(H.ext ys) k x m;have y:=Tn m;by_cases hb:x.x<1152921504606845789
  .have C:decide ((1152921504606845789:Int)<=(x.x:Int))=false:=by simp;omega
   have u:=Tn (show(l.take (k+1)).all (fun s=>decide (s.x<Rp))=true by rw[fv y.out,t.out,Wo];exact decide_eq_true hb);go_wp2;go_roundw
   case rel=>exact⟨k+1,Ph,Pt,u,af ys _⟩
   case measure=>simp[VS];omega
  have C:decide ((1152921504606845789:Int)<=(x.x:Int))=true:=by simp;omega
  have Z:=Tn (show aj0 l=false by unfold aj0;rw[sG y.out (decide_eq_false hb)];rfl);go_wp2;go_ret;exact⟨Ps,af ys _⟩
 obtain rfl:k=n:=by omega
 have z:=Tn (VD (l:=l) (i:=k) (by rw[f.out];exact UY _));rw[z.out]at t;have Z:=Tn (show aj0 l=cM (bS l) by unfold aj0;rw[t.out];rfl);go_wp2_with fail;refine(mX l a k cap _ f q hn (H.ext ys)).mono ?_;rintro e K⟨v,rfl,r,D⟩;obtain⟨a2,c2,rfl,h1,c,A⟩:=uA (l:=bS l) WA r;refine P4 (aa ys D) A fun F G=>?_;go_wp2_with fail;refine(sk (bS l) a2 k c2 _ WA h1 hn G).mono ?_;rintro e J⟨rfl,V⟩;have Id:=Tn (aa F V);exact UI
def FD(l):∀s∈gA l,s.x<2^64:=fun s z=>by
 unfold gA at z;obtain⟨t,_,rfl⟩:=Wl.1 z;exact pw _
def eO{α β:Type}{f:β->α->β}{l:List α}{x:α}(h:l[k]?=Ts x)(i:β):(l.take (k+1)).foldl f i=f ((l.take k).foldl f i) x:=by
 rw[aW h,List.foldl_append];rfl
def pj{α:Type}{f:Nat->α->Nat}(cf:∀o x,o<m->f o x<m):∀(l:List α)(i:Nat),i<m->l.foldl f i<m
 |[],_,h=>h
 |x::l,i,h=>pj cf l _ (cf i x h)
def JN(b x id):kC b x id<Rp:=pj (fun o k c=>by split;exact c;exact rf _ _) b 1 Pi
def JJ(b id):j7 b id<Rp:=pj (fun o k c=>by split;exact c;exact rf _ _) b 1 Pi
def Cn{b:List Int}{x}{id n:Int}(h:b[k]?=Ts n):kC (b.take (k+1)) x id=if n=id then kC (b.take k) x id else gV (kC (b.take k) x id) (A9 x n.toNat):=eO h 1
def B5{b:List Int}{id n:Int}(h:b[k]?=Ts n):j7 (b.take (k+1)) id=if n=id then j7 (b.take k) id else gV (j7 (b.take k) id) (A9 id.toNat n.toNat):=eO h 1
def IN(a b):A9 a b<Rp:=uy _ _
def Oa(a):zL a<2^64:=by
 unfold zL;split
 .decide
 next L=>
 have m:0<a%Rp:=Ph;have h:=vP Rp (a%Rp) Rp 1 0 true Rp m Pi Ph;unfold ui Hh;have N:Rp=1152921504606845789:=rfl;split<;>omega
def tI(b x id):jq b x id<Rp:=rf _ _
def tT(a n cap x)(w:UN):VB UB 225 #[Tm a n cap,ag x] w (fun e b=>e=UO (.func (.func 260) #[] #[UK (Ts ⟨w.heap.size,0,U8⟩),UK (Ts ⟨w.heap.size+1,0,U8⟩)])/\
  VX b w.heap.size 84 (Tm a n cap)/\VX b (w.heap.size+1) 30 (ag x)/\aq w b):=by
 have d:Hid (VX ((w.alloc (Tq #[Tm a n cap] 84)).alloc (Tq #[ag x] 30)) w.heap.size 84 (Tm a n cap)):=Tn ((Wt _ _ _).alloc _)
 have c:Hid (VX ((w.alloc (Tq #[Tm a n cap] 84)).alloc (Tq #[ag x] 30)) (w.heap.size+1) 30 (ag x)):=Tn (by
  have:=Wt (w.alloc (Tq #[Tm a n cap] 84)) 30 (ag x);rwa[Ud]at this)
 go_enter func225,ntmps225;go_wp2_with fail;go_ret;exact⟨rfl,d,c,af (af P0 _) _⟩
def rJ(d:List Int)(a n cap x b1 b2 id w)(Y:d.length=n)(hnc:n<=cap)(hn:n<=1000000000)(h:cr 1 ag6 w a d)(u:∀k∈d,0<=k/\k<1152921504606845789)(hi:0<=id/\id<1152921504606845789)(h1:VX w b1 84 (Tm a n cap))(c:VX w b2 30 (ag x)):
  VB UB 260 #[Ti Tl id,UK (Ts ⟨b1,0,U8⟩),UK (Ts ⟨b2,0,U8⟩)] w (bM (ag (jq d x id)) w):=by
 refine P5 Y h u c fun HL H Z H2=>have c1:=h1.cell;have X:=hi.1;have hi1:=hi.2;?_;go_enter func260,ntmps260;go_wp2;go_loopw [5,6,13] (fun p q j wr=>∃k:Nat,k<=n/\j=Ti Tl k/\p=ag (kC (d.take k) x id)/\q=ag (j7 (d.take k) id)/\aq w wr) (fun _ _ j _=>n-(VS j).toNat)
 case atStart=>exact⟨0,VF _,rfl,rfl,rfl,P0⟩
 obtain⟨k,o,rfl,rfl,rfl,g⟩:=hrel;refine P3 g (JN (d.take k) x id) (JJ (d.take k) id) fun ys f r=>?_;by_cases R:k<n
 .obtain⟨y,U⟩:=ay HL R;obtain⟨b,off,rfl,J⟩:=(H.ext ys) k y U;have hc':wr.cell? ⟨b,off+k,U8⟩=Ts (Ti Tl y):=T3;have s:=Z.out y (Uv U);have T:=s.1;have hy1:=s.2;refine P4 (Cn (x:=x) (id:=id) U) (B5 (id:=id) U) fun M N=>have q2:=(aC ys H2).cell;P1 (kC (d.take k) x id) fun P I=>P1 (j7 (d.take k) id) fun Q K=>?_;rw[I]at M f⊢;rw[K]at N r⊢;obtain⟨z,rfl⟩:=WL T;obtain⟨m,W⟩:=WL X;subst W;by_cases G:z=m
  .have t:=Tn (show kC (d.take (k+1)) x (m:Int)=P by rw[M.out,if_pos (by rw[G])]);have A:=Tn (show j7 (d.take (k+1)) (m:Int)=Q by rw[N.out,if_pos (by rw[G])]);have t1:((z:Int) !=(m:Int))=false:=by rw[G];simp
   go_wp2;go_roundw
   case rel=>exact⟨k+1,Ph,Pt,by rw[t.out],by rw[A.out],ys⟩
   case measure=>simp[VS];omega
  have t:=Tn (show kC (d.take (k+1)) x (m:Int)=gV P (A9 x z) by rw[M.out,if_neg Ph];rfl);have A:=Tn (show j7 (d.take (k+1)) (m:Int)=gV Q (A9 m z) by rw[N.out,if_neg Ph];rfl);have t1:((z:Int) !=(m:Int))=true:=Pp;go_wp2_with fail;refine P2 (Cl x z Ph _) fun w2 D=>have F:=Tn (aa ys D);?_;go_wp2_with fail;refine P2 (jb P _ (ip f) (ip (IN _ _)) _) fun w3 V=>have Id:=Tn (aa F V);?_;go_wp2_with fail;refine P2 (Cl m z Ph _) fun w4 B=>have O:=Tn (aa Id B);?_;go_wp2_with fail;refine P2 (jb Q _ (ip r) (ip (IN _ _)) _) fun w5 C=>have S:=Tn (aa O C);?_;go_wp2;go_roundw
  case rel=>exact⟨k+1,Ph,Pt,by rw[t.out],by rw[A.out],S⟩
  case measure=>simp[VS];omega
 obtain rfl:k=n:=by omega
 have HT:=Tn (VD (l:=d) (i:=k) QT);rw[HT.out]at f r⊢;have L:Hid (jq d x id=gV (kC d x id) (zL (j7 d id))):=Tn rfl;refine P1 (kC d x id) fun P I=>P1 (j7 d id) fun Q K=>?_;rw[I]at f L⊢;rw[K]at r L⊢;go_wp2_with fail;refine(Na Q _).mono ?_;rintro e w2⟨rfl,rfl⟩;obtain⟨ev,E⟩:∃ev:Int,(if Q%Rp=0 then(10:Int)else 0)=ev:=⟨_,rfl⟩;rw[E];go_wp2_with fail;refine P2 (jb P _ (ip f) (Oa _) _) fun w3 V=>have Id:=Tn (aa ys V);?_;go_wp2;go_ret;exact⟨Zfw,Id⟩
def uP:∀(l met:List Int),ul met l=true->∀k∈l,0<=k/\k<1152921504606845789
 |[],_,_=>fun k o=>Zbz
 |n::l,met,h=>fun k o=>by
  unfold ul at h;simp only[V7,decide_eq_true_eq]at h;have u:(Rp:Int)=1152921504606845789:=rfl;rcases VN.1 o with rfl|o
  .omega
  exact uP l _ h.2.2.2 k o
def mQ{b}(h:cM b=true):∀k∈b,0<=k/\k<1152921504606845789:=by
 unfold cM at h;simp only[V7]at h;exact uP _ _ h.1
def pu(b:List Int)(id:Int):Int:=if b.contains id&&cM b then 0 else 1
def ajT(b:List Int)(id:Int)(k:Nat):Prop:=((b.take k).contains id&&cM b)=false
def E7(c:List Int)(a n cap id w)(p:c.length=n)(t:n<=cap)(hn:n<=1000000000)(h:cr 1 ag6 w a c):
  VB UB 223 #[Tm a n cap,Ti Tl id] w (bM (UW #[ag (eS c id),Ti Tl (pu c id)]) w):=by
 refine P4 p h fun A H=>?_;clear p h;go_enter func223,ntmps223;go_wp2_with fail;go_loopw [10] (fun j wr=>∃k:Nat,k<=n/\j=Ti Tl k/\ajT c id k/\aq w wr) (fun j _=>n-(VS j).toNat)
 case atStart=>exact⟨0,VF _,rfl,rfl,P0⟩
 obtain⟨k,o,rfl,s,g⟩:=hrel;have ys:=Tn g;have f:Hid (((c.take k).contains id&&cM c)=false):=Tn s;clear g s;by_cases R:k<n
 .obtain⟨y,U⟩:=ay A R;obtain⟨b,off,rfl,J⟩:=(H.ext ys) k y U;have L:wr.cell? ⟨b,off+k,U8⟩=Ts (Ti Tl y):=T3;have I:=Tn U;clear U J;by_cases E:y=id
  .subst E;have u:=Tn (show c.contains y=true by rw[List.contains_eq_mem,decide_eq_true_eq];exact Uv I.out);go_wp2_with fail;refine(sk c _ n cap _ A t hn (H.ext ys)).mono ?_;rintro e P⟨rfl,D⟩;have F:=Tn (aa ys D);clear D;cases d:cM c with
   |true=>
    refine P4 (show eS c y=jq c 0 y by unfold eS;rw[u.out,d];rfl) d fun C q=>?_;clear d;go_wp2_with fail;refine(tT _ _ _ 0 _).mono ?_;rintro e M⟨rfl,z,x,V⟩;refine P3 z x (aa F V) fun G B Id=>?_;clear z x V;go_wp2_with fail;refine(rJ c _ n cap 0 _ _ y _ A t hn (H.ext Id) (mQ q) (mQ q y (Uv I.out)) G B).mono ?_;rintro e N⟨rfl,r⟩;have K:=Tn (aa Id r);clear r;go_wp2_with fail;go_ret2
    exact⟨by rw[C.out,show pu c y=0 by unfold pu;rw[u.out,q.out];rfl];rfl,K⟩
   |false=>
    have m:=Tn (show((c.take (k+1)).contains y&&cM c)=false by rw[d,Bool.and_false]);clear d;go_wp2_with fail;go_roundw
    case rel=>exact⟨k+1,Ph,Pt,m,F⟩
    case measure=>simp[VS];omega
  have O:(y==id)=false:=by simpa using E
  have m:=Tn (show((c.take (k+1)).contains id&&cM c)=false by
   rw[aW I.out,List.contains_eq_mem,<-f.out,List.contains_eq_mem];have zs:¬id=y:=fun e=>E e.symm
   simp[zs])
  go_wp2_with fail;go_roundw
  case rel=>exact⟨k+1,Ph,Pt,m,ys⟩
  case measure=>simp[VS];omega
 obtain rfl:k=n:=by omega
 rw[VD (l:=c) (i:=k) (by rw[A.out];exact UY _)]at f;have C:=Tn (show eS c id=0 by unfold eS;rw[f.out];rfl);go_wp2_with fail;go_ret2
 exact⟨by rw[C.out,show pu c id=1 by unfold pu;rw[f.out];rfl];rfl,ys⟩
def Gk(l:List bq)(k):bS (l.take k)=(bS l).take k:=by unfold bS;rw[List.map_take]
def dJ(l):(bS l).length=l.length:=by unfold bS;rw[VR]
def cr.drop{α:Type}{R:pD α}{b off:Nat}{l:List α}(h:cr m R w (Ts ⟨b,off,U8⟩) l)(k):cr m R w (Ts ⟨b,off+k*m,U8⟩) (l.drop k):=fun i x d=>by
 rw[YE]at d;obtain⟨g,c,hb,f⟩:=h _ x d;cases hb;refine⟨_,_,rfl,?_⟩;rw[Nat.add_assoc,<-ZC];exact f
def od(first:List bq)(s:bq)(k:Nat):Nat:=(first.take k).foldl (fun x k=>pC x (ii Qp k.x (jq (bS first) s.id.toNat k.id))) 1
def BS{first}{s y:bq}(h:first[k]?=Ts y):od first s (k+1)=pC (od first s k) (ii Qp y.x (jq (bS first) s.id.toNat y.id)):=eO h 1
def Fc(first:List bq)(s)(h:first.length<=k):(od first s k==s.x)=qB first s:=by
 unfold od qB;rw[VD h]
def AP(a b):pC a b<Qp:=Wf _ Pi
def KM(first s k):od first s k<Qp:=pj (fun _ _ _=>AP _ _) _ _ Pi
def zc{a:Nat}(h:a<Qp):a<2^64:=WF h Pi
def ap(w):aq w w.drew:=(Xg (fun _=>False) _).ext (fun _ _ h=>h)
def ajO{b o:Nat}(L:w.cell? ⟨b,o,U8⟩=Ts x)(g:aq w c):aq w c/\c.cell? ⟨b,o,U8⟩=Ts x:=⟨g,ae L g⟩
def acQ(w:UN)(f:UV)(b:List Int)(x:Nat):Prop:=∃(b1 b2:Nat)(a:Option VW)(c:Nat),f= .func (.func 260) #[] #[UK (Ts ⟨b1,0,U8⟩),UK (Ts ⟨b2,0,U8⟩)]/\
 b.length<=c/\cr 1 ag6 w a b/\VX w b1 84 (Tm a b.length c)/\VX w b2 30 (ag x)
def yV{t}{l:List bq}(h:t<1\/7<t\/(0<l.length/\cM (bS l)=false)):eN t l=1:=by unfold eN;rw[if_pos h]
def FK{t}{l:List bq}(h:l.all (fun s=>sL s.x)=false):eN t l=1:=by
 unfold eN;by_cases h1:t<1\/7<t\/(0<l.length/\cM (bS l)=false)
 .rw[if_pos h1]
 rw[if_neg h1,if_pos h]
def ti{t}{l:List bq}(h:¬(t<1\/7<t\/(0<l.length/\cM (bS l)=false)))(c:l.all (fun s=>sL s.x)=true)(A:(l.length:Int)<t):eN t l=50:=by
 unfold eN;rw[if_neg h,if_neg Zbx,if_pos A]
def Ao{t}{l:List bq}(h:¬(t<1\/7<t\/(0<l.length/\cM (bS l)=false)))(c:l.all (fun s=>sL s.x)=true)(A:¬(l.length:Int)<t):eN t l=if(l.drop t.toNat).all (qB (l.take t.toNat))then 0 else 60:=by
 unfold eN;rw[if_neg h,if_neg Zbx,if_neg A]
def af0(t:Int)(a)(cap:Nat)(w:UN)(L:1<=t)(b:t<=7):VB UB 183 #[Ti Tl t,Tm a 0 cap] w (bM (Ti Tl 50) w):=by
 go_enter func183,ntmps183;go_wp2;go_loopw [34] (fun j wr=>j=Ti Tl 0/\wr=w) (fun _ _=>0)
 case atStart=>exact⟨rfl,rfl⟩
 obtain⟨rfl,rfl⟩:=hrel;exact Tf
def afX(t:Int)(v:UV)(w:UN)(h:t<1\/7<t):VB UB 183 #[Ti Tl t,v] w (bM (Ti Tl 1) w):=by
 by_cases h1:t<1
 .clear h;go_enter func183,ntmps183;exact Tf
 have b:=h.resolve_left h1;go_enter func183,ntmps183;exact Tf
def Np(t)(l:List bq)(a n cap w)(hl:l.length=n)(hnc:n<=cap)(hcm:cap<=9223372036854775807)(hn:n<=1000000000)(h:cr 2 eF w a l):
  VB UB 183 #[Ti Tl t,Tm a n cap] w (bM (Ti Tl (eN t l)) w):=by
 by_cases ht:t<1\/7<t
 .have Z:=yV (t:=t) (l:=l) (by rcases ht with h|h;exact .inl h;exact .inr (.inl h));rw[Z];exact afX t _ w ht
 by_cases L:n=0
 .subst L;obtain rfl:l=[]:=VA hl;have Z:eN t []=50:=ti Pp rfl Pp;rw[Z];exact af0 t a cap w Ph Ph
 have ht1:1<=t:=Ph;have ht7:t<=7:=Ph;have hnp:0<n:=Ph;refine P4 hl h fun S H=>?_;obtain⟨b,off,ha⟩:∃b off,a=Ts ⟨b,off,U8⟩:=by
  obtain⟨x,m⟩:=ay hl hnp;obtain⟨b,off,hb,_⟩:=h 0 x m;exact⟨b,off,hb⟩
 subst ha;have q1:decide (t<1)=false:=Pp;have q7:decide ((7:Int)<t)=false:=Pp;go_enter func183,ntmps183;go_wp2_with fail;refine(mX l _ n cap _ S hnc hn H).mono ?_;rintro e w2⟨v,rfl,r,hE2⟩;obtain⟨a2,c2,rfl,h1,c,h3⟩:=uA (l:=bS l) (by rw[dJ];exact S.out) r;refine P4 hE2 h3 fun F H3=>?_;go_wp2_with fail;refine(sk (bS l) a2 n c2 _ (by rw[dJ];exact S.out) h1 hn H3).mono ?_;rintro e w3⟨rfl,V⟩;have Id:=Tn (aa F V);cases O:cM (bS l)with
 |false=>
  have Z:=Tn (yV (t:=t) (l:=l) (.inr (.inr ⟨by rw[S.out];exact hnp,O⟩)));exact UI
 |true=>
  have HNB:Hid (¬(t<1\/7<t\/(0<l.length/\cM (bS l)=false))):=Tn (by rw[O];rintro(h|h|⟨_,h⟩)<;>first|omega|cases h);have HRG:=Tn (mQ O);go_wp2;go_loopw [34] (fun j wr=>∃k:Nat,k<=n/\j=Ti Tl k/\(l.take k).all (fun s=>sL s.x)=true/\aq w wr) (fun j _=>n-(VS j).toNat)
  case atStart=>exact⟨0,VF _,rfl,rfl,Id⟩
  obtain⟨k,o,rfl,hall,g⟩:=hrel;refine P4 hall g fun HA ys=>?_;by_cases R:k<n
  .obtain⟨x,m⟩:=ay S R;obtain⟨b',off',hb,E,G,hxb⟩:=(H.ext ys) k x m;cases hb;have HX:=Tn m;go_wp2_with fail;refine P2 (vv x.x hxb _) fun w4 hE4=>have HE4:=Tn (aa (af ys _) hE4);?_;cases hin:sL x.x with
   |true=>
    have K:=Tn (show(l.take (k+1)).all (fun s=>sL s.x)=true by rw[fv HX.out,HA.out,Wo];exact hin);go_wp2;go_roundw
    case rel=>exact⟨k+1,Ph,Pt,K,HE4⟩
    case measure=>simp[VS];omega
   |false=>
    have Z:=Tn (FK (t:=t) (sG (p:=fun s:bq=>sL s.x) HX hin));go_wp2;go_ret;exact⟨Ps,HE4⟩
  obtain rfl:k=n:=by omega
  rw[VD (l:=l) (i:=k) (by rw[S.out];exact UY _)]at HA;by_cases hfew:(k:Int)<t
  .have Z:=Tn (ti HNB HA (by rw[S.out];exact hfew));exact Tc
  have Z:=Tn (Ao HNB HA (by rw[S.out];exact hfew));obtain⟨d,rfl⟩:=WL (show 0<=t from Ph);rw[XU]at Z;refine P1 (l.take d) fun first hfi=>P1 (l.drop d) fun rest W=>?_;rw[hfi,W]at Z;refine P4 hfi W fun HFI HRE=>have u:Hid (first.length=d):=Tn (by rw[<-hfi,VZ,S.out];omega);have HRL:Hid (rest.length=k-d):=Tn (by rw[<-W,VT,S.out]);have htk:d<=k:=Ph;have htc:d<=cap:=Ph;?_;by_cases hct:cap=d
  .obtain rfl:k=d:=by omega
   obtain rfl:cap=k:=hct;have HN0:=Tn (show rest=[]from VA (by rw[HRL.out];omega));rw[HN0.out]at Z;go_wp2;go_quiet (fail)
   go_wp2;go_loopw [55] (fun j wx=>j=Ti Tl 0/\aq w wx) (fun _ _=>0)
   case atStart=>exact⟨rfl,pq ys _⟩
   obtain⟨rfl,hEx⟩:=hrel;go_wp2;go_ret;exact⟨Ps,hEx⟩
  have htc2:d<cap:=by omega
  go_wp2;go_quiet (fail)
  go_wp2_with fail;have HSF:Hid (cr 2 eF w (Ts ⟨b,off,U8⟩) first):=Tn (by rw[<-HFI.out];exact H.out.take d);have HSR:Hid (cr 2 eF w (Ts ⟨b,off+d*2,U8⟩) rest):=Tn (by rw[<-HRE.out];exact H.out.drop d)
  have HFR:Hid (∀i∈bS first,0<=i/\i<1152921504606845789):=Tn fun i hi=>HRG.out i (by
   rw[<-HFI.out,Gk]at hi
   exact List.mem_of_mem_take hi)
  have HRR:Hid (∀s∈rest,0<=s.id/\s.id<1152921504606845789):=Tn fun s z=>HRG.out s.id (by
   rw[<-HRE.out]at z;unfold bS
   exact Wl.2 ⟨s,List.mem_of_mem_drop z,rfl⟩)
  have hnt:d<=1000000000:=Ph;refine P1 (k-d) fun rn hrn=>P1 (cap-d) fun rc hrc=>have hrnc:rn<=rc:=Ph;have hrnb:rn<=1000000000:=Ph;have hrcb:rc<=9223372036854775807:=Ph;?_;rw[hrn]at HRL;rw[hrn,hrc];go_loopw [55] (fun j wx=>∃i:Nat,i<=rn/\j=Ti Tl i/\(rest.take i).all (qB first)=true/\aq w wx) (fun j _=>rn-(VS j).toNat)
  case atStart=>exact⟨0,VF _,rfl,rfl,pq ys _⟩
  obtain⟨i,hi,rfl,Q,hEx⟩:=hrel;refine P4 Q hEx fun K HEX=>?_;by_cases hlt2:i<rn
  .obtain⟨s,z⟩:=ay HRL hlt2;obtain⟨b',off',hb,E,G,hxb⟩:=(HSR.ext HEX) i s z;cases hb;have HSS:=Tn z;have hsr:=HRR.out s (Uv z);obtain⟨sid,sx⟩:=s;dsimp only at E G hxb hsr;obtain⟨B,rfl⟩:=WL hsr.1;have him:B<1152921504606845789:=Ph;go_upto_region 15 with fail;refine P1 wr.heap.size fun D C=>P1 (wr.alloc (Tq #[Ti Tl (B:Int),Ti Tt (sx:Int)] 39)) fun W1 T=>have HE1:=Tn (show aq w W1 by rw[<-T];exact af HEX _);have J:W1.cell? ⟨D,0,U8⟩=Ts (Ti Tl (B:Int)):=Sd;have hb2:W1.cell? ⟨D,1,U8⟩=Ts (ag sx):=Sd;have HB2:=Tn hb2;?_;rw[T,C];have HSF1:=Tn (HSF.ext HE1);go_cut [11] (fun f wx=>acQ wx f (bS first) B/\aq W1 wx)
   case first=>
    go_region_held3 (fun w'=>aq W1 w'/\w'.cell? ⟨D,0,U8⟩=Ts (Ti Tl (B:Int)))
     (first
      |assumption
      |exact⟨P0,J⟩
      |exact ajO J ((Xg (fun _=>False) _).ext (fun _ _ h=>h))
      |exact ajO J Zbo)
     (first
      |(go_at_call 143;(refine(mX first _ d cap _ u htc hnt (HSF1.ext Ru)).mono ?_;rintro e w5⟨v5,rfl,r,c⟩;obtain⟨a5,c5,rfl,k1,k2,k3⟩:=uA (l:=bS first) (by rw[dJ];exact u.out) r;have K3:=Tn k3;have h3:=aa (A:=W1) Ru c))
      |(go_at_call 225;refine(tT _ _ _ _ _).mono ?_;rintro e w6⟨rfl,hb3,hb4,c⟩;have h3:=aa (A:=W1) Ru c;refine P3 hb3 hb4 c fun HB3 HB4 H26=>?_))
    have e64:B%((2:Int)^Tt.bits).natAbs=B:=Yj (WF him Pi);rw[e64]at HB4;go_wp2;go_meet
    exact⟨⟨_,_,a5,c5,rfl,by rw[dJ,u.out];assumption,K3.ext H26,by rw[dJ,u.out];exact HB3.out,HB4⟩,h3⟩
   obtain⟨⟨B1,B2,a5,c5,rfl,hc5,k3,k4,k5⟩,hEc⟩:=hcut;rw[dJ,u.out]at hc5 k4;refine PC k3 k4 k5 hEc (ae HB2 hEc) fun K3 K4 K5 HEC HB2'=>have hfl:=u.out;?_;go_wp2;go_loopw [67,12] (fun j x wy=>∃q:Nat,q<=d/\j=Ti Tl q/\x=ag (od first ⟨(B:Int),sx⟩ q)/\aq wc wy) (fun j _ _=>d-(VS j).toNat)
   case atStart=>exact⟨0,VF _,rfl,rfl,P0⟩
   obtain⟨q,N,rfl,rfl,hEy⟩:=hrel;refine P4 hEy (KM first ⟨(B:Int),sx⟩ q) fun HEY HCL=>?_;by_cases hlt3:q<d
   .obtain⟨y,U⟩:=ay u hlt3;obtain⟨b',off',hb,E,G,hyb⟩:=(HSF1.ext (aa HEC HEY)) q y U;cases hb;refine P4 (BS (s:=⟨(B:Int),sx⟩) U) (HFR y.id (by unfold bS;exact Wl.2 ⟨y,Uv U,rfl⟩)) fun HST HYR=>P1 (od first ⟨(B:Int),sx⟩ q) fun X hX=>?_;rw[hX]at HST HCL⊢;go_upto_region 20 with fail;refine P1 wr.heap.size fun D2 C=>P1 (wr.alloc (Tq #[Ti Tl y.id,Ti Tt (y.x:Int)] 39)) fun I Y=>have HEW:=Tn (show aq wc I by rw[<-Y];exact af HEY _);have z0:I.cell? ⟨D2,0,U8⟩=Ts (Ti Tl y.id):=Xf;have z1:I.cell? ⟨D2,1,U8⟩=Ts (ag y.x):=Xf;?_;rw[Y,C];refine aZ Pg Pg (fun w'=>aq I w') (ap _) ?_;repeat
     (first|refine az rfl rfl rfl rfl ?_|refine aF rfl rfl rfl rfl ?_|refine aw rfl ?_|refine aj rfl rfl rfl rfl rfl ?_|((first|refine av (v:=?_) rfl rfl (fun hb w' M=>?_) ?_|refine ar (v:=?_) rfl rfl rfl (fun J hb w' M=>?_) ?_|refine ax (v:=?_) rfl (fun w' M=>?_) ?_);rotate_left;(focus(have f0:=ae z0 M;have f1:=ae z1 M;unfold ak;go_simp;first|exact aD M|(go_at_call 260;refine(rJ (bS first) a5 d c5 B B1 B2 y.id _ (by rw[dJ];exact u.out) hc5 hnt (K3.ext (aa HEW M)) HFR HYR (aC (aa HEW M) K4) (aC (aa HEW M) K5)).mono ?_;rintro e w''⟨rfl,c⟩;exact aH (aa M c))|(go_at_call 109;refine P2 (oT y.x _ hyb (ip (tI _ _ _)) _) fun w'' c=>?_;exact aH (aa M c))|(go_at_call 121;refine P2 (rQ X _ (zc HCL) (zc (rS Pi _ _)) _) fun w'' c=>?_;exact aH (aa M c))))))
     simp only[Ua,P7]
    refine aA fun w' hE'=>have HEE:=Tn (aa HEW hE');?_;go_wp2;go_roundw
    case rel=>exact⟨q+1,Ph,Pt,by rw[HST.out];rfl,HEE⟩
    case measure=>simp[VS];omega
   obtain rfl:q=d:=by omega
   have HCB:=Tn (Fc first ⟨(B:Int),sx⟩ (k:=q) QH);refine P1 (od first ⟨(B:Int),sx⟩ q) fun X hX=>?_;rw[hX]at HCB HCL⊢;have c9:=ae HB2' HEY;have HEF:=Tn (aa HE1 (aa HEC HEY));by_cases P:X=sx
   .have t5:((X:Int) !=(sx:Int))=false:=by rw[P];simp
    have HA3:=Tn (show(rest.take (i+1)).all (qB first)=true by
     rw[fv HSS.out,K.out,Wo,<-HCB.out];simpa using P)
    go_wp2;go_roundw
    case rel=>exact⟨i+1,Ph,Pt,HA3,HEF⟩
    case measure=>simp[VS];omega
   have t5:((X:Int) !=(sx:Int))=true:=by simp;omega
   have HA3:=Tn (show rest.all (qB first)=false from sG HSS (by rw[<-HCB.out];simpa using P));go_wp2;go_ret;exact⟨by rw[Z.out,HA3.out];rfl,HEF⟩
  obtain rfl:i=rn:=by omega
  rw[VD (l:=rest) (i:=i) (by rw[HRL.out];exact UY _)]at K;rw[K.out,if_pos rfl]at Z;go_wp2;go_ret;exact⟨Ps,HEX⟩
def abE(l:List bq)(a n cap w)(p:l.length=n)(N:n<=cap)(hn:n<=1000000000)(h:cr 2 eF w a l):
  VB UB 224 #[Tm a n cap] w (fun e I=>∃v,e=UO v/\I.ownsRow w.heap.size 3 1 v n (jI (bS l))/\aq w I):=by
 obtain⟨i0,hi,z,t,u⟩:=WN I8;refine P4 p h fun J H=>?_;go_enter func224,ntmps224;go_wp2;go_loopw [8,3] (fun j v wr=>∃k:Nat,k<=n/\j=Ti Tl k/\wr.ownsRow w.heap.size 3 1 v k (jI (bS (l.take k)))/\aq w wr) (fun j _ _=>n-(VS j).toNat)
 case atStart=>exact⟨0,VF _,rfl,WO _ _ _ _,P0⟩
 obtain⟨k,o,rfl,r,g⟩:=hrel;refine P4 r g fun K ys=>have B:=g.size;?_;by_cases R:k<n
 .obtain⟨x,m⟩:=ay J R;obtain⟨b,off,rfl,A,E,_⟩:=(H.ext ys) k x m;have M:=Tn (aW m);go_upto_region 5 with fail;refine P1 wr.heap.size fun D C=>P1 (wr.alloc (Tq #[Ti Tl x.id,Ti Tt (x.x:Int)] 39)) fun s Y=>have F:=Tn (show aq wr s from QQ);have z0:s.cell? ⟨D,0,U8⟩=Ts (Ti Tl x.id):=Xf;have q:=Tn (ee K F);have G:=VG B F.size;?_;rw[Y,C];go_wp2_with (at_builtin;refine wpList_append_own_at _ rfl _ _ 84 rfl w.heap.size 3 i0 (Ti Tl 0) 1 8 underlying84 hi z t u rfl Pi _ _ _ rfl (q.alloc _) ⟨s.heap.size,0,U8⟩ 1 1 [Ti Tl x.id] rfl rfl (d9 _ _ _) Pu Pr Ph Pp ?_;intro P L d c _ f;refine P4 d (ZB (af (aa ys F) _) c (bE (q.alloc (Tq #[Ti Tl x.id] 3)))) fun y Id=>?_)
  go_roundw
  case rel=>
   refine⟨k+1,Ph,Pt,?_,Id⟩;rw[M.out];unfold bS;rw[WK,WI,Ym,qW];exact y.out
  case measure=>simp[VS];omega
 obtain rfl:k=n:=by omega
 have O:=Tn (VD (l:=l) (i:=k) (by rw[J.out];exact UY _));go_wp2;go_ret;exact⟨_,rfl,by have:=K.out;rw[O.out]at this;exact this,ys⟩
def vX(b id):eS b id<Rp:=by
 unfold eS;split
 .exact tI _ _ _
 decide
def ud(l:List bq)(a n cap)(id:Int)(w)(p:l.length=n)(f:n<=cap)(hn:n<=1000000000)(h:cr 2 eF w a l):
  VB UB 180 #[Tm a n cap,Ti Tl id] w (bM (ag (eS (bS l) id)) w):=by
 refine P4 p h fun d H=>?_;go_enter func180,ntmps180;go_wp2_with fail;refine(abE l a n cap _ d f hn H).mono ?_;rintro e j⟨v,rfl,r,D⟩;obtain⟨a2,c2,rfl,h1,c,A⟩:=uA (l:=bS l) (by rw[dJ];exact d.out) r;refine P4 D A fun F g=>?_;go_wp2_with fail;refine(E7 (bS l) a2 n c2 id _ (by rw[dJ];exact d.out) h1 hn g).mono ?_;rintro e m⟨rfl,V⟩;have Id:=Tn (aa F V);refine P1 (pu (bS l) id) fun ev b=>?_;rw[b];go_wp2;go_ret;exact⟨rfl,Id⟩
structure BI(F:FuncId)(caps:Array UV)(w0:UN)(l:List bq)(gg:bq->Nat):Prop where
 enters:∀args w,(Wu F args).run UB w= .ok (.enter F args) w
 does:∀s∈l,∀W,aq w0 W->VB UB F (#[eU s]++caps) W (bM (ag (gg s)) W)
 small:∀s∈l,gg s<2^64
def BI.ext{F b l}{gg:bq->Nat}(h:BI F b d l gg)(g:aq d c):BI F b c l gg:=
 ⟨h.enters,fun s z W f=>h.does s z W (aa g f),h.small⟩
def K7(F c p l)(gg:bq->Nat)(cf:BI F c p l gg)(s)(z:s∈l)(n b)(hn:n<2^64)(W)(g:aq p W)(hb:VX W b 281 (.func (.func F) #[] c)):VB UB 227 #[ag n,eU s,UK (Ts ⟨b,0,U8⟩)] W (bM (ag (pC n (gg s))) W):=by
 have y:=cf.enters;refine P5 (cf.does s z) (cf.small s z) hb g fun q m r ys=>have c0:=hb.cell;?_;unfold eU;refine P1 W.heap.size fun D C=>P1 (W.alloc (Tq #[Ti Tl s.id,ag s.x] 39)) fun f d=>have B:=Tn (show aq W f from Pq);have z0:f.cell? ⟨D,0,U8⟩=Ts (Ti Tl s.id):=Pk;have u:f.cell? ⟨D,1,U8⟩=Ts (ag s.x):=Pk;have t:=(aC B r).cell;?_;go_enter func227,ntmps227;go_upto_region 1 with fail;try rw[d]
 try rw[C]
 go_wp2_with fail;refine P2 (q f (aa ys B)) fun A j=>have o:=Tn (aa B j);?_;go_wp2_with fail;refine P2 (rQ n (gg s) hn m _) fun E V=>have Id:=Tn (aa o V);?_;go_wp2;go_ret;exact⟨rfl,Id⟩
def qw(l:List bq)(gg:bq->Nat)(k:Nat):Nat:=(l.take k).foldl (fun n s=>pC n (gg s)) 1
def D9{l}{gg:bq->Nat}{s}(h:l[k]?=Ts s):qw l gg (k+1)=pC (qw l gg k) (gg s):=eO h 1
def Hb(l:List bq)(gg:bq->Nat)(h:l.length<=k):qw l gg k=kG l gg:=by unfold qw kG;rw[VD h]
def LE(l)(gg:bq->Nat)(k):qw l gg k<Qp:=pj (fun _ _ _=>AP _ _) _ _ Pi
def yS(l)(gg:bq->Nat):kG l gg<Qp:=pj (fun _ _ _=>AP _ _) _ _ Pi
def MN(F c l)(gg:bq->Nat)(a n cap b w)(cf:BI F c w l gg)(hb:VX w b 281 (.func (.func F) #[] c))(p:l.length=n)(y:n<=cap)(hn:n<=1000000000)(h:cr 2 eF w a l):
  VB UB 226 #[Tm a n cap,ag 1,.func (.func 227) #[] #[UK (Ts ⟨b,0,U8⟩)]] w (bM (ag (kG l gg)) w):=by
 refine P5 p h cf hb fun u H B A=>?_;go_enter func226,ntmps226;go_wp2;go_loopw [11,1] (fun j v wr=>∃k:Nat,k<=n/\j=Ti Tl k/\v=ag (qw l gg k)/\aq w wr) (fun j _ _=>n-(VS j).toNat)
 case atStart=>exact⟨0,VF _,rfl,rfl,P0⟩
 obtain⟨k,o,rfl,rfl,g⟩:=hrel;refine P4 g (LE l gg k) fun ys d=>?_;by_cases R:k<n
 .obtain⟨x,m⟩:=ay u R;obtain⟨C,off,rfl,q,s,_⟩:=(H.ext ys) k x m;refine P4 (D9 (gg:=gg) m) (Uv m) fun f z=>P1 (qw l gg k) fun X t=>?_;rw[t]at f d⊢;go_wp2_with fail;refine P2 (K7 F c w l gg B x z X b (zc d) _ (af ys _) (aC (af ys _) A)) fun E D=>have r:=Tn (aa (af ys _) D);?_;go_wp2;go_roundw
  case rel=>exact⟨k+1,Ph,Pt,by rw[f.out],r⟩
  case measure=>simp[VS];omega
 obtain rfl:k=n:=by omega
 rw[Hb l gg QH];exact Ze9
def tx(F b l)(gg:bq->Nat)(a n cap w)(cf:BI F b w l gg)(p:l.length=n)(d:n<=cap)(hn:n<=1000000000)(h:cr 2 eF w a l):
  VB UB 184 #[Tm a n cap,.func (.func F) #[] b] w (bM (ag (kG l gg)) w):=by
 refine P5 p h cf (Wt w 281 (.func (.func F) #[] b)) fun g H j f=>?_;go_enter func184,ntmps184;go_wp2_with fail;refine P2 (MN F b l gg a n cap _ _ (j.ext (af P0 _)) f g d hn (H.ext (af P0 _))) fun m D=>have c:=Tn D;?_;go_wp2;go_ret;exact⟨rfl,aa (af P0 _) c⟩
section
structure kE(w:UN)(b:Nat)(c:nt)(msg:au)(cm:List bq)(pa:Option VW)(pc:Nat)(ma:Option VW)(mc:Nat)(ca:Option VW)(cc:Nat):Prop where
 c0:w.cell? ⟨b,0,U8⟩=Ts (Ti Tl c.t)
 c1:w.cell? ⟨b,1,U8⟩=Ts (Ti Tl c.n)
 c2:w.cell? ⟨b,2,U8⟩=Ts (ag c.key)
 c3:w.cell? ⟨b,3,U8⟩=Ts (Tm pa c.parts.length pc)
 c4:w.cell? ⟨b,4,U8⟩=Ts (Tm ma msg.length mc)
 c5:w.cell? ⟨b,5,U8⟩=Ts (Tm ca cm.length cc)
 key:c.key<2^64
 pl:c.parts.length<=pc
 pm:pc<=9223372036854775807
 pb:c.parts.length<=1000000
 ps:cr 2 eF w pa c.parts
 mm:aJ w (Tm ma msg.length mc) msg
 ml:msg.length<=1000000
 cl:cm.length<=cc
 cx:cc<=9223372036854775807
 cb:cm.length<=1000000
 cs:cr 2 eF w ca cm
variable {w w':UN} {b:Nat} {c:nt} {msg:au} {cm:List bq} {pa:Option VW} {pc:Nat} {ma:Option VW} {mc:Nat} {ca:Option VW} {cc:Nat}
def kE.ext(h:kE w b c msg cm pa pc ma mc ca cc)(g:aq w w'):kE w' b c msg cm pa pc ma mc ca cc:=
 ⟨ae h.c0 g,ae h.c1 g,ae h.c2 g,ae h.c3 g,ae h.c4 g,ae h.c5 g,h.key,h.pl,h.pm,h.pb,h.ps.ext g,h.mm.ext g,h.ml,h.cl,h.cx,h.cb,h.cs.ext g⟩
def KG(s)(w:UN):VB UB 222 #[eU s] w (bM (ag s.x) w):=by
 unfold eU;go_enter func222,ntmps222;go_wp2;go_ret;exact⟨rfl,af P0 _⟩
def aa8(w:UN){l}(p:∀s∈l,s.x<2^64):BI 222 #[] w l (·.x) where
 enters:=Vv func222 Pg rfl
 does:=fun s _ W _=>KG s W
 small:=p
def sV{m w a l}(h:cr m eF w a l):∀s∈l,s.x<2^64:=fun s z=>by
 obtain⟨i,hi⟩:=List.getElem?_of_mem z;obtain⟨_,_,_,b⟩:=h i s hi;exact b.2.2
def FN(h:kE w b c msg cm pa pc ma mc ca cc):
  VB UB 179 #[UK (Ts ⟨b,0,U8⟩)] w (bM (ag (Bd c msg cm)) w):=by
 have H:=Tn h;have z5:=h.c5;go_enter func179,ntmps179;go_wp2_with fail;refine(tx 222 #[] cm (·.x) ca _ cc _ (aa8 _ (sV H.cs)) rfl H.out.cl TL H.cs).mono ?_;rintro e r⟨rfl,q⟩;have p:=(H.ext q).c2;have z4:=(H.ext q).c4;refine P4 q (yS cm (·.x)) fun s d=>have m:Hid (Bd c msg cm=dP (kG cm (·.x)) c.key msg):=Tn rfl;P1 (kG cm (·.x)) fun J o=>?_;rw[o]at d m⊢;go_wp2_with fail;refine aZ Pg Pg (fun f=>aq r f) (ap _) ?_;repeat
  (first|refine az rfl rfl rfl rfl ?_|refine aF rfl rfl rfl rfl ?_|refine aw rfl ?_|refine aj rfl rfl rfl rfl rfl ?_|((first|refine av (v:=?_) rfl rfl (fun hb f l=>?_) ?_|refine ar (v:=?_) rfl rfl rfl (fun y hb f l=>?_) ?_|refine ax (v:=?_) rfl (fun f l=>?_) ?_);rotate_left;(focus(have f0:=ae p l;have z:=ae z4 l;unfold ak;go_simp;first|exact aD l|(go_at_call 155;refine(lO J c.key _ msg _ (zc d) H.key (H.mm.ext (aa s l)) (by have:=H.out.ml;omega)).mono ?_;rintro e t⟨rfl,u⟩;exact aH (aa l u))))))
  simp only[Ua,P7]
 refine aA fun f g=>have j:=Tn (aa s g);?_;go_wp2;go_ret;exact⟨by rw[m.out];rfl,j⟩
def LA(c)(msg:au)(cm):Bd c msg cm<Rp:=mF _ _ _
def vR(id)(h:kE w b c msg cm pa pc ma mc ca cc):
  VB UB 114 #[UK (Ts ⟨b,0,U8⟩),Ti Tl id] w (bM (ag (iW c msg cm id)) w):=by
 have H:=Tn h;have z5:=h.c5;go_enter func114,ntmps114;go_wp2_with fail;refine aZ Pg Pg (fun j=>aq w j) (ap _) ?_;repeat
  (first|refine az rfl rfl rfl rfl ?_|refine aF rfl rfl rfl rfl ?_|refine aw rfl ?_|refine aj rfl rfl rfl rfl rfl ?_|((first|refine av (v:=?_) rfl rfl (fun hb j l=>?_) ?_|refine ar (v:=?_) rfl rfl rfl (fun o hb j l=>?_) ?_|refine ax (v:=?_) rfl (fun j l=>?_) ?_);rotate_left;(focus(have f0:=ae z5 l;unfold ak;go_simp;first|exact aD l|(go_at_call 179;refine(FN (H.ext l)).mono ?_;rintro e d⟨rfl,g⟩;exact aH (aa l g))|(go_at_call 180;refine(ud cm ca _ cc id _ rfl H.out.cl TL (H.cs.ext l)).mono ?_;rintro e d⟨rfl,g⟩;exact aH (aa l g))|(go_at_call 74;refine P2 (jb _ _ (ip (LA c msg cm)) (ip (vX (bS cm) id)) _) fun d g=>?_;exact aH (aa l g))))))
  simp only[Ua,P7]
 refine aA fun j f=>have m:=Tn f;?_;go_wp2;go_ret;exact⟨rfl,m⟩
def wI(c)(msg:au)(cm id):iW c msg cm id<Rp:=rf _ _
end
section
def GI(F d)(p:bq->Bool)(l a n cap w)(cf:kI F d w l eU p)(y:l.length=n)(hn:n<=1000000000)(A:n<=cap)(h:cr 2 eF w a l):
  VB UB 177 #[Tm a n cap,.func (.func F) #[] d] w (bM (Ti Tl (kR p l)) w):=by
 refine P3 y h cf fun u H E=>have G:=cf.enters;?_;go_enter func177,ntmps177;go_wp2;go_loopw [8] (fun j wr=>∃k:Nat,k<=n/\j=Ti Tl k/\(l.take k).all (fun x=> !p x)=true/\aq w wr) (fun j _=>n-(VS j).toNat)
 case atStart=>exact⟨0,VF _,rfl,rfl,P0⟩
 obtain⟨k,o,rfl,f,g⟩:=hrel;refine P4 g f fun ys c=>?_;by_cases R:k<n
 .obtain⟨x,m⟩:=ay u R;have z:=Tn (E.does x (Uv m));obtain⟨b,off,rfl,B,C,_⟩:=(H.ext ys) k x m;have t:=Tn m;go_wp2_with fail;refine P2 (z _ (ys)) fun I D=>have q:=Tn (aa ys D);?_;cases r:p x with
  |true=>
   exact TQ
  |false=>
   have s:=Tn (show(l.take (k+1)).all (fun x=> !p x)=true from RA);go_wp2;go_roundw
   case rel=>exact⟨k+1,Ph,Pt,s,q⟩
   case measure=>simp[VS];omega
 exact TN
def aiH(id:Int)(c:bq):Bool:=decide (c.id=id)
def IM(a b:Int):(a==b)=decide (a=b):=by
 rw[YH];simp
def adS(s id b w)(hb:VX w b 3 (Ti Tl id)):VB UB 178 #[eU s,UK (Ts ⟨b,0,U8⟩)] w (bM (U1 (aiH id s)) w):=by
 have c:=Tn hb;refine P1 w.heap.size fun D C=>P1 (w.alloc (Tq #[Ti Tl s.id,ag s.x] 39)) fun f d=>have B:=Tn (show aq w f from Pq);have z0:f.cell? ⟨D,0,U8⟩=Ts (Ti Tl s.id):=Pk;have g:=(aC B c).cell;?_;unfold eU;go_enter func178,ntmps178;exact Um
def ah9{w b id}(hb:VX w b 3 (Ti Tl id))(l):kI 178 #[UK (Ts ⟨b,0,U8⟩)] w l eU (aiH id) where
 enters:=Vv func178 Pg rfl
 does:=fun s _ W g=>adS s id b W (aC g hb)
def ac0(l:List bq)(id:Int):bq:=(LO l id).getD ⟨0,0⟩
variable {w w':UN} {b:Nat} {c:nt} {msg:au} {cm:List bq} {pa:Option VW} {pc:Nat} {ma:Option VW} {mc:Nat} {ca:Option VW} {cc:Nat}
def LQ(id)(h:kE w b c msg cm pa pc ma mc ca cc):
  VB UB 113 #[UK (Ts ⟨b,0,U8⟩),Ti Tl id] w (bM (UW #[eU (ac0 cm id),U1 (LO cm id).isSome]) w):=by
 refine P1 w.heap.size fun D C=>P1 ((w.alloc (Tq #[Ti Tl id] 3)).alloc (Tq #[Ti Tl 0,Ti Tt 0] 39)) fun f d=>have B:=Tn (show aq w f from Pz);have J:Hid (VX f D 3 (Ti Tl id)):=Tn X5;?_
 have t:Hid (f.heap[D+1]?=Ts (Tq #[Ti Tl 0,Ti Tt 0] 39 (0,0))):=Tn (by
  rw[<-d,<-C];have:=UZ (w.alloc (Tq #[Ti Tl id] 3)) (Tq #[Ti Tl 0,Ti Tt 0] 39)
  rwa[Ud]at this)
 have z:w.heap.size<=D+1:=Ph;have H:=Tn (h.ext B);have z5:=H.out.c5;clear h;go_enter func113,ntmps113;go_upto_region 1 with(fail);try rw[d]
 try rw[C]
 clear d C;go_wp2_with fail;refine(GI 178 _ (aiH id) cm ca _ cc _ (ah9 J cm) rfl TL H.cl H.cs).mono ?_;rintro e r⟨rfl,q⟩;have s:=Tn q;have O:=(H.ext q).c5;have u:=(q.block (D+1) (UE.1 t).1).trans t;have A:=Tn u;refine PM u fun U am=>PO u fun T g1=>?_;clear q u z5;rcases gI (aiH id) cm with⟨h1,y,_⟩|⟨i,x,h1,m,Q,y,_⟩
 .have M:Hid (LO cm id=U8):=Tn y;rw[h1];clear h1 y;have E:=bz A z (aa B s) (Ti Tl 0) (Ti Tt 0);refine PI r (D+1) (Ti Tl 0) (Ti Tt 0) fun o l=>?_;rw[l]at E;refine P4 l E fun p j=>?_;clear l E;go_wp2_with fail;rw[p.out];exact PM j.1 fun q0 q1=>VC (v:=UW #[UT #[Ti Tl 0,Ti Tt 0],U1 false]) Sk rfl ⟨by unfold ac0 eU;rw[M.out];rfl,j.2⟩
 have M:Hid (LO cm id=Ts x):=Tn y;have I:=(UU.1 m).1;obtain⟨g,off,L,P,S,_⟩:=((H.cs).ext s.out) i x m;have K:=H.out.cl;have G:=H.out.cb;subst L;rw[h1];refine P1 cm.length fun N F=>?_;rw[F]at I K G O;clear h1 y m Q;try rw[F]
 clear F;have E:=bz A z (aa B s) (Ti Tl x.id) (ag x.x);refine PI r (D+1) (Ti Tl x.id) (ag x.x) fun o l=>?_;rw[l]at E;refine P4 l E fun p j=>?_;clear l E;go_wp2_with fail;rw[p.out];exact PM j.1 fun q0 q1=>VC (v:=UW #[UT #[Ti Tl x.id,ag x.x],U1 true]) Sk rfl ⟨by unfold ac0 eU;rw[M.out];rfl,j.2⟩
end
def fK(f:Nat->UV)(n:Nat):Array UV:=(Array.range n).map f
def sC(f:Nat->UV)(i:Nat)(v:UV):Nat->UV:=fun j=>if j=i then v else f j
def cL(f:Nat->UV)(n):(fK f n).size=n:=by simp[fK]
def gm(f:Nat->UV)(h:i<n):(fK f n)[i]?=Ts (f i):=by simp[fK,h]
def Do(f:Nat->UV)(n i v):(fK f n).setIfInBounds i v=fK (sC f i v) n:=by
 apply Array.ext_getElem?;intro j;rw[Array.getElem?_setIfInBounds,cL];by_cases Q:j<n
 .rw[gm _ Q,gm _ Q];by_cases h:i=j
  .subst h;rw[if_pos rfl,if_pos Q];unfold sC;rw[if_pos rfl]
  rw[if_neg h];unfold sC;rw[if_neg (fun e=>h e.symm)]
 have am:(fK f n)[j]?=U8:=WB RC;have b:(fK (sC f i v) n)[j]?=U8:=WB RC;rw[am,b];by_cases h:i=j
 .subst h;rw[if_pos rfl,if_neg Q]
 rw[if_neg h]
def zr(z n):madeCells z n=fK (fun i=>z[i%z.size]!) n:=rfl
def aS(w:UN)(b:Nat)(t:WR)(f:Nat->UV)(n:Nat):Prop:=w.heap[b]?=Ts (Tq (fK f n) t (0,0))
def aS.ext{b}(h:aS w b t f n)(g:aq w c):aS c b t f n:=(g.block b (UE.1 h).1).trans h
def aS.cell{b}(h:aS w b t f n)(hi:i<n):w.cell? ⟨b,i,U8⟩=Ts (f i):=by
 unfold Wc;rw[h];exact gm f hi
def aS.free{b}(h:aS c b t f n)(i:Nat):c.frozen? ⟨b,i,U8⟩=false:=VQ c b i _ _ h
def aS.set{b}(h:aS c b t f n)(l:w.heap.size<=b)(g:aq w c)(i v):aS (c.setCell ⟨b,i,U8⟩ v) b t (sC f i v) n/\aq w (c.setCell ⟨b,i,U8⟩ v):=by
 refine⟨?_,?_⟩
 .unfold aS;rw[<-Do];exact VE c b i _ _ _ h
 have d:=Uz (S:=fun x=>x=b) c ⟨b,i,U8⟩ v rfl;exact((Uh (S:=fun _=>False) g).onto d (fun j Q h=>Ph)).ext (fun _ _ h=>h)
def aS.other{b}(h:aS c b t f n)(hb:b≠b2)(i:Nat)(v:UV):aS (c.setCell ⟨b2,i,U8⟩ v) b t f n:=by
 unfold aS at*;rw[<-h];exact Below.heap_setCell _ _ _ _ hb
def DL(x){l:List Nat}{c}(h:l[k]?=Ts c)(o p):gM x (l.drop k) o p=gM x (l.drop (k+1)) (mM o (gV c p)) (gV p x):=by
 obtain⟨b,rfl⟩:=UU.1 h;rw[WT b,gM]
def Aa(b t)(c:au)(h:0<t):(mB b t c).length=t:=by
 unfold mB;simp;omega
def FO(b t)(c:au):(mB b t c).getD 0 0=b:=rfl
def JF(b t)(c:au)(L:0<i)(h:i<t):(mB b t c).getD i 0=jh (cj ql [c,[VI i]]) Rp:=by
 obtain⟨j,rfl⟩:∃j,i=j+1:=⟨i-1,Ph⟩;have Q:j<t-1:=Ph;unfold mB;rw[List.getD_cons_succ,Uj,VU,Yp Q,Wm,Option.getD_some]
def sn(x):∀(l:List Nat)(o p:Nat),o<Rp->gM x l o p<Rp
 |[],_,_,h=>h
 |c::l,o,p,_=>by rw[gM];exact sn x l _ _ (uy _ _)
def afI(w:UN)(k:Nat)(o:k<256)(t:WR):aJ (w.alloc (Tq #[Ti Uy (k:Int)] t)) (Tm (Ts ⟨w.heap.size,0,U8⟩) 1 1) [VI k]:=by
 refine⟨_,1,rfl,UY _,Pi,fun i x m=>⟨w.heap.size,0,rfl,?_⟩⟩;have hi:=(UU.1 m).1;obtain rfl:i=0:=by simp at hi;omega
 cases m;have e:((VI k).toNat:Int)=(k:Int):=Pp;rw[e];simp[go_sem]
def GH(t p q:au):(fy t [p,q]).length=9+t.length+p.length+q.length:=Sj
def MG(b t)(d:au)(h:b<Rp):∀c∈mB b t d,c<Rp:=fun c J=>by
 unfold mB at J;rcases VN.1 J with rfl|J
 .exact h
 obtain⟨i,_,rfl⟩:=Wl.1 J;exact kX Pi
def vH{b t}{c:au}{x:bq}(h:(iO b t n c)[i]?=Ts x):i<n/\x=⟨(i:Int)+1,gM (i+1) (mB b t c) 0 1⟩:=by
 unfold iO at h;rw[VU]at h;by_cases hi:i<n
 .rw[Yp hi,Wm]at h;exact⟨hi,(Vm h).symm⟩
 rw[List.getElem?_eq_none Pp]at h;cases h
def ab5(g:Nat->UV)(b:List Nat)(k n:Nat):Prop:=
 (∀i,i<k->g (i*2)=Ti Tl ((i:Int)+1)/\g (i*2+1)=ag (gM (i+1) b 0 1))/\(∀i,k<=i->i<n->g (i*2+1)=ag 0)
def ab5.step{g g':Nat->UV}{b}(h:ab5 g b k n)(L:g' (k*2)=Ti Tl ((k:Int)+1))(h1:g' (k*2+1)=ag (gM (k+1) b 0 1))(z:∀i,i≠k->g' (i*2)=g (i*2)/\g' (i*2+1)=g (i*2+1)):ab5 g' b (k+1) n:=by
 refine⟨fun i hi=>?_,fun i hi hn=>?_⟩
 .by_cases c:i=k
  .subst c;exact⟨L,h1⟩
  rw[(z i c).1,(z i c).2];exact h.1 i Ph
 rw[(z i Ph).2];exact h.2 i Ph hn
def Ox(r t n:Nat)(v)(u:au)(w)(h1:0<t)(h2:t<=n)(A:n<=7)(h4:r<Rp)(z:aJ w v u)(hl:u.length<=60000000000000):
  VB UB 21 #[ag r,Ti Tl (t:Int),Ti Tl (n:Int),v] w (fun e w'=>∃b,e=UO (UW #[Tm (Ts ⟨b,0,U8⟩) n n,Ti Tl 0])/\w.heap.size<=b/\cr 2 eF w' (Ts ⟨b,0,U8⟩) (iO r t n u)/\aq w w'):=by
 have h4':r<1152921504606845789:=h4;have HS:=Tn z;have q1:decide ((t:Int)<1)=false:=Pp;have q2:decide (n<t)=false:=Pp;have q3:decide ((7:Int)<(n:Int))=false:=Pp;have q4:decide ((1152921504606845789:Int)<=(r:Int))=false:=Pp;obtain⟨i1,hi1,hz1,hs1,hb1⟩:=WN A4;refine P1 w.heap.size fun D C=>have m1:=run_make (P:=UB) w 113 30 i1 _ underlying113 hi1 hz1 Tl Tl (t:Int) (t:Int) Ph Ph (by rw[hb1];omega) Ph;?_;rw[XU,hs1,XT,zr]at m1;obtain⟨W0,d⟩:∃W0,w.alloc (Tq (fK (fun i=>(Ti Tt 0).cells[i%(Ti Tt 0).cells.size]!) t) 30)=W0:=⟨_,rfl⟩;rw[d,C]at m1;have HE0:=Tn (show aq w W0 from Pq);have HP0:Hid (aS W0 D 30 (fun i=>(Ti Tt 0).cells[i%(Ti Tt 0).cells.size]!) t):=Tn (by unfold aS;rw[<-d,<-C];exact UZ _ _);clear d;obtain⟨sa,sc,rfl⟩:=HS.out.form;go_enter func21,ntmps21;go_upto_region 4 with fail;clear q2;go_wp2;go_loopw [36] (fun j wr=>∃k:Nat,k<=t/\j=Ti Tl k/\(∃f,aS wr D 30 f t/\∀i,i<k->f i=ag ((mB r t u).getD i 0))/\aq w wr) (fun j _=>t-(VS j).toNat)
 case atStart=>exact⟨0,VF _,rfl,⟨_,HP0,fun i hi=>absurd hi (YG _)⟩,HE0⟩
 obtain⟨k,hk,rfl,⟨f,M,cf⟩,hE⟩:=hrel;refine P3 M cf hE fun H HF ys=>?_;by_cases R:k<t
 .have e0:=H.out.cell R;have g0:=H.out.free k;have E:=H.out.set (w:=w) Ph ys k (ag r);refine P1 (wr.setCell ⟨D,k,U8⟩ (ag r)) fun W1 T=>?_;rw[T]at E;refine P3 E.1 E.2 T fun HR1 s HW1=>?_;clear T;by_cases L:k=0
  .subst L;go_wp2;go_roundw
   case rel=>
    rw[HW1.out]
    exact⟨1,Ph,Pt,⟨_,HR1,fun i hi=>by
     obtain rfl:i=0:=Ph
     unfold sC
     rw[if_pos rfl,FO]⟩,s⟩
   case measure=>simp[VS];omega
  go_upto_region 9 with fail;(try rw[HW1.out]);go_wp2_with fail;have hk256:k<256:=Ph;refine P1 (W1.alloc (Tq #[Ti Uy (k:Int)] 5)) fun V hV=>have HB1:Hid (aJ V (Tm (Ts ⟨W1.heap.size,0,U8⟩) 1 1) [VI k]):=Tn (by rw[<-hV];exact afI W1 k hk256 _);have W:=Tn (show aq W1 V by rw[<-hV];exact af P0 _);?_;have hsz:W1.heap.size+1=V.heap.size:=by rw[<-hV,Ud]
  rw[hV,hsz];clear hV hsz;refine(kB ⟨#[115,104,97,114,101]⟩ [u,[VI k]] _ 2 2 _ rfl Pi Pi (by rw[GH];show 9+5+_+1<=_;omega) (LV (HS.ext (aa s W)) HB1 _)).mono ?_;rintro e O⟨rfl,hE3⟩;refine P3 (aa (aa W (af P0 _)) hE3) (lk (fy ql [u,[VI k]])) (mh ql [u,[VI k]]) fun Id HT HTE=>?_;go_wp2_with fail;refine(uC (cj ql [u,[VI k]]) 1152921504606845789 (by rw[HTE.out];exact cd HT.1) (by rw[HTE.out];exact cd HT.2) Pi Pi _).mono ?_;rintro e W4⟨rfl,hE4⟩;refine P4 (aa Id hE4) (JF r t u Ph R) fun HE4 HG=>P1 (jh (cj ql [u,[VI k]]) 1152921504606845789) fun X hX=>?_;rw[hX]at HG⊢;have HR4:=Tn (HR1.ext HE4);have e0:=HR4.out.cell R;have g0:=HR4.out.free k;have E:=HR4.out.set (w:=w) Ph (aa s HE4) k (ag X);refine P1 (W4.setCell ⟨D,k,U8⟩ (ag X)) fun W5 hW5=>?_;rw[hW5]at E;refine P3 E.1 E.2 hW5 fun HR5 HE5 HW5=>?_;clear hW5 hX;go_wp2;go_roundw
  case rel=>
   rw[HW5.out];refine⟨k+1,Ph,Pt,⟨_,HR5,fun i hi=>?_⟩,HE5⟩;unfold sC;by_cases hik:i=k
   .subst hik;rw[if_pos rfl,HG.out]
   rw[if_neg hik,if_neg hik];exact HF.out i Ph
  case measure=>simp[VS];omega
 obtain rfl:k=t:=by omega
 obtain⟨i2,hi2,hz2,hs2,hb2⟩:=WN IV;refine P1 wr.heap.size fun B hB=>have m2:=run_make (P:=UB) wr 31 39 i2 _ underlying31 hi2 hz2 Tl Tl (n:Int) (n:Int) Ph Ph (by rw[hb2];omega) Ph;?_;rw[XU,hs2,zr]at m2;obtain⟨I,Y⟩:∃I,wr.alloc (Tq (fK (fun i=>(UT #[Ti Tl 0,Ti Tt 0]).cells[i%(UT #[Ti Tl 0,Ti Tt 0]).cells.size]!) (n*2)) 39)=I:=⟨_,rfl⟩;rw[Y,hB]at m2;have F:=Tn (show aq wr I from QQ);have HO2:Hid (aS I B 39 (fun i=>(UT #[Ti Tl 0,Ti Tt 0]).cells[i%(UT #[Ti Tl 0,Ti Tt 0]).cells.size]!) (n*2)):=Tn (by unfold aS;rw[<-Y,<-hB];exact UZ _ _);have HBW:Hid (wr.heap.size<=B):=Tn Ph;clear Y hB;go_upto_region 12 with fail;obtain⟨V1,hV1⟩:∃V1,V1=wr:=⟨_,rfl⟩;subst hV1;have HPL:=Tn (Aa r k u h1)
 have HPF:Hid (∀i c,(mB r k u)[i]?=Ts c->f i=ag c):=Tn (fun i c hic=>by
  have hi:=(UU.1 hic).1;rw[HPL.out]at hi
  rw[HF.out i hi,Uj,hic];rfl)
 refine P1 (mB r k u) fun y Q=>?_;rw[Q]at HPL HPF;have HPY:=Tn Q;clear Q;go_wp2;go_loopw [60] (fun j wx=>∃q:Nat,q<=n/\j=Ti Tl q/\(∃g,aS wx B 39 g (n*2)/\ab5 g y q n)/\aq V1 wx) (fun j _=>n-(VS j).toNat)
 case atStart=>exact⟨0,VF _,rfl,⟨_,HO2,fun i hi=>absurd hi (YG _),fun i _ _=>by
  show(#[Ti Tl 0,Ti Tt 0]:Array UV)[(i*2+1)%2]! =_
  rw[show(i*2+1)%2=1 from Ph];rfl⟩,F⟩
 obtain⟨q,N,rfl,⟨g,M,S⟩,hEx⟩:=hrel;refine P3 M S hEx fun G HG HEX=>?_;by_cases R:q<n
 .have e0:=G.out.cell (i:=q*2) Ph;have g0:=G.out.free (q*2);have E:=G.out.set (w:=V1) HBW HEX (q*2) (Ti Tl ((q:Int)+1));refine P1 (wr.setCell ⟨B,q*2,U8⟩ (Ti Tl ((q:Int)+1))) fun O hW3=>?_;rw[hW3]at E;refine P3 E.1 E.2 hW3 fun HR3 Id HW3=>?_;clear hW3;go_upto_region 17 with fail;rw[HW3.out];go_wp2
  go_loopw [71,14] (fun j pv wy=>∃(m o p:Nat),m<=k/\j=Ti Tl m/\pv=ag p/\p<2^64/\o<2^64/\gM (q+1) y 0 1=gM (q+1) (y.drop m) o p/\
   (∃g',aS wy B 39 g' (n*2)/\g' (q*2)=Ti Tl ((q:Int)+1)/\g' (q*2+1)=ag o/\∀i,i≠q->g' (i*2)=g (i*2)/\g' (i*2+1)=g (i*2+1))/\aq V1 wy) (fun j _ _=>k-(VS j).toNat)
  case atStart=>
   refine⟨0,0,1,VF _,rfl,rfl,Pi,Pi,rfl,⟨_,HR3,?_,?_,fun i hi=>⟨?_,?_⟩⟩,Id⟩
   .unfold sC;rw[if_pos rfl]
   .unfold sC;rw[if_neg Ph];exact HG.out.2 q (UY _) R
   .unfold sC;rw[if_neg Ph]
   unfold sC;rw[if_neg Ph]
  obtain⟨m,o,p,K,rfl,rfl,hp,ho,hev,⟨g',hrow3,hg0,hg1,hgs⟩,hEy⟩:=hrel;refine PG hev hrow3 hg0 hg1 hgs hEy hp fun W U HG0 HG1 HGS HEY HP=>?_;by_cases hlt3:m<k
  .obtain⟨c,J⟩:=ay HPL hlt3;have hcell:=(H.ext HEY).cell hlt3;rw[HPF.out m c J]at hcell;refine P4 (DL (q+1) J o p) (ip (MG r k u h4 c (by rw[HPY.out];exact Uv J))) fun HST HC=>?_;go_upto_region 20 with fail;have z1:=U.out.cell (i:=q*2+1) Ph;rw[HG1.out]at z1;refine tD 13 14 Pg Pg Pg rfl Pg (fun w'=>aq wr w') (fun w'=>aS w' B 39 (sC g' (q*2+1) (ag (mM o (gV c p)))) (n*2)/\aq V1 w') (ap _) ?_;simp only[Xx,Wk];iterate 13
    (first|refine az rfl rfl rfl rfl ?_|refine aF rfl rfl rfl rfl ?_|refine aw rfl ?_|refine aj rfl rfl rfl rfl rfl ?_|refine dS rfl rfl rfl rfl rfl ?_|((first|refine av (v:=?_) rfl rfl (fun hb w' l=>?_) ?_|refine ar (v:=?_) rfl rfl rfl (fun hb1 hb w' l=>?_) ?_|refine ax (v:=?_) rfl (fun w' l=>?_) ?_);rotate_left;(focus(have f0:=ae z1 l;unfold ak;go_simp;first|exact aD l|(go_at_call 74;refine(jb c p HC HP _).mono ?_;rintro e w''⟨rfl,h2⟩;exact aH (aa l h2))|(go_at_call 73;refine P2 (vy o _ _) fun w'' h2=>?_;exact aH (aa l h2))))))
    simp only[Ua,P7]
   refine IX (v:=undef) U8 rfl rfl rfl (fun w' l=>?_) (fun w' l=>?_)
   .have hR:=U.out.ext l;have e0:=hR.cell (i:=q*2+1) Ph;have g0:=hR.free (q*2+1);have HSET:=Tn (hR.set (w:=V1) HBW (aa HEY l) (q*2+1) (ag (mM o (gV c p))));unfold ak;go_simp;exact⟨rfl,HSET⟩
   obtain⟨hR,hE⟩:=l;refine P4 hR hE fun Z HE4=>?_;(try simp only[Ua]);go_wp2_with fail;refine P2 (jb p (q+1) HP Ph _) fun W6 hE6=>P3 (aa HE4 hE6) (Z.ext hE6) (W.trans HST) fun HE6 HR6 HN6=>?_;go_wp2;go_roundw
   case rel=>
    refine⟨m+1,mM o (gV c p),gV p (q+1),Ph,Pt,rfl,ip (rf _ _),ip (uy _ _),HN6,⟨_,HR6,?_,?_,fun i hi=>⟨?_,?_⟩⟩,HE6⟩
    .unfold sC;rw[if_neg Ph];exact HG0.out
    .unfold sC;rw[if_pos rfl]
    .unfold sC;rw[if_neg Ph];exact(HGS i hi).1
    unfold sC;rw[if_neg Ph];exact(HGS i hi).2
   case measure=>simp[VS];omega
  obtain rfl:m=k:=by omega
  rw[List.drop_of_length_le (by rw[HPL.out];exact UY _),gM]at W;have HG2:=Tn (HG.step (g':=g') HG0 (by rw[HG1.out,W.out]) HGS);go_wp2;go_roundw
  case rel=>exact⟨q+1,Ph,Pt,⟨g',U,HG2⟩,HEY⟩
  case measure=>simp[VS];omega
 obtain rfl:q=n:=by omega
 go_wp2;go_ret2
 refine⟨_,rfl,VG ys.size HBW,fun i x hx=>?_,aa ys HEX⟩;obtain⟨hi,rfl⟩:=vH hx;have h1:=(HG.1 i hi).1;have h2:=(HG.1 i hi).2;rw[HPY.out];refine⟨_,_,rfl,?_,?_,ip (sn _ _ _ _ Pi)⟩
 .rw[<-h1,VY];exact G.out.cell Ph
 rw[<-h2,VY];exact G.out.cell Ph
def Nu{b}{q:Prop}(h:aS w b t f 13)(x0 u s o x r p m j l g c d:UV)(e:[f 0,f 1,f 2,f 3,f 4,f 5,f 6,f 7,f 8,f 9,f 10,f 11,f 12]=[x0,u,s,o,x,r,p,m,j,l,g,c,d])(k:w.cell? ⟨b,0,U8⟩=Ts x0->w.cell? ⟨b,1,U8⟩=Ts u->w.cell? ⟨b,2,U8⟩=Ts s->w.cell? ⟨b,3,U8⟩=Ts o->w.cell? ⟨b,4,U8⟩=Ts x->w.cell? ⟨b,5,U8⟩=Ts r->w.cell? ⟨b,6,U8⟩=Ts p->w.cell? ⟨b,7,U8⟩=Ts m->w.cell? ⟨b,8,U8⟩=Ts j->w.cell? ⟨b,9,U8⟩=Ts l->w.cell? ⟨b,10,U8⟩=Ts g->w.cell? ⟨b,11,U8⟩=Ts c->w.cell? ⟨b,12,U8⟩=Ts d->q):q:=by
 simp only[Yq,and_true]at e;obtain⟨rfl,rfl,rfl,rfl,rfl,rfl,rfl,rfl,rfl,rfl,rfl,rfl,rfl⟩:=e;exact k (h.cell (i:=0) Pi) (h.cell (i:=1) Pi) (h.cell (i:=2) Pi) (h.cell (i:=3) Pi) (h.cell (i:=4) Pi) (h.cell (i:=5) Pi) (h.cell (i:=6) Pi) (h.cell (i:=7) Pi) (h.cell (i:=8) Pi) (h.cell (i:=9) Pi) (h.cell (i:=10) Pi) (h.cell (i:=11) Pi) (h.cell (i:=12) Pi)
def ajU{b}{q:Prop}(h:aS w b t f 13)(k:w.cell? ⟨b,0,U8⟩=Ts (f 0)->w.cell? ⟨b,1,U8⟩=Ts (f 1)->w.cell? ⟨b,2,U8⟩=Ts (f 2)->w.cell? ⟨b,3,U8⟩=Ts (f 3)->w.cell? ⟨b,4,U8⟩=Ts (f 4)->w.cell? ⟨b,5,U8⟩=Ts (f 5)->w.cell? ⟨b,6,U8⟩=Ts (f 6)->w.cell? ⟨b,7,U8⟩=Ts (f 7)->w.cell? ⟨b,8,U8⟩=Ts (f 8)->w.cell? ⟨b,9,U8⟩=Ts (f 9)->w.cell? ⟨b,10,U8⟩=Ts (f 10)->w.cell? ⟨b,11,U8⟩=Ts (f 11)->w.cell? ⟨b,12,U8⟩=Ts (f 12)->w.frozen? ⟨b,0,U8⟩=false->w.frozen? ⟨b,1,U8⟩=false->w.frozen? ⟨b,2,U8⟩=false->w.frozen? ⟨b,3,U8⟩=false->w.frozen? ⟨b,4,U8⟩=false->w.frozen? ⟨b,5,U8⟩=false->w.frozen? ⟨b,6,U8⟩=false->w.frozen? ⟨b,7,U8⟩=false->w.frozen? ⟨b,8,U8⟩=false->w.frozen? ⟨b,9,U8⟩=false->w.frozen? ⟨b,10,U8⟩=false->w.frozen? ⟨b,11,U8⟩=false->w.frozen? ⟨b,12,U8⟩=false->q):q:=
 k (h.cell (i:=0) Pi) (h.cell (i:=1) Pi) (h.cell (i:=2) Pi) (h.cell (i:=3) Pi) (h.cell (i:=4) Pi) (h.cell (i:=5) Pi) (h.cell (i:=6) Pi) (h.cell (i:=7) Pi) (h.cell (i:=8) Pi) (h.cell (i:=9) Pi) (h.cell (i:=10) Pi) (h.cell (i:=11) Pi) (h.cell (i:=12) Pi) (h.free 0) (h.free 1) (h.free 2) (h.free 3) (h.free 4) (h.free 5) (h.free 6) (h.free 7) (h.free 8) (h.free 9) (h.free 10) (h.free 11) (h.free 12)
end Go.Proofs.YtjmgalpkbkcmkaaGreatDoor

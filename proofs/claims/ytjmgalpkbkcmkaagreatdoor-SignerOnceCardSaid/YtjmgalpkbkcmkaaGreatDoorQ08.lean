import Derived.Test.YtjmgalpkbkcmkaaGreatDoorQ07
set_option maxRecDepth 100000
set_option maxHeartbeats 16000000
set_option linter.all false
namespace Go.Proofs.YtjmgalpkbkcmkaaGreatDoor
open Go.RowKit Go.Proofs.Tryz Go.Proofs.YtjmgalpkbkcmkaaGreatDoor.Tryz
open _root_.Array renaming getElem?_eq_some_iff->UE,ext_getElem?->Yc
open Bool renaming not_eq_false'->YD,or_eq_true->WU,or_eq_false_iff->YT,and_eq_true->V7,and_assoc->YS,true_and->Wo,not_eq_true'->Wh
open Classical renaming not_not->Xn
open Go renaming World->UN,wpAnyH_take->Ve,Calls->VB,callFunc->Wu,info_parts->WN,maxLen->VL,Value->UV,Boxed->VX,Ending->Xo,Addr->VW,undef->VM,results->Vo,wpList_store_row->WS,bodyPost_ret->VC,heap_setCell_same->VE,wpAnyH_ready->Vx
open Go.Act renaming put->Ua
open Go.AllReadyH renaming nil->Vp,cons->Va
open Go.Boxed renaming new->Wt,set->ZF
open Go.Ending renaming returned->UO
open Go.IntKind renaming u64->Tt,i64->Tl
open Go.Lib renaming hid->Tn,toList_data->Yb
open Go.Obj renaming cells->Tq
open Go.Proofs renaming intOf->VS,enters_of->Vv
open Go.Proofs.Tryz renaming prog->UB
open Go.Proofs.YtjmgalpkbkcmkaaGreatDoor.Fr renaming grown->ZG,alloc->ZD,drew->Xg,setCell->Uz,refl->Z5,of_ext->Uh
open Go.Proofs.YtjmgalpkbkcmkaaGreatDoor.bK renaming ext->ZI
open Go.Proofs.YtjmgalpkbkcmkaaGreatDoor.bj renaming step->ZE,take->ZQ
open Go.Value renaming string->UH,slice->Tm,tuple->UW,bool->U1,ownBlock->Vt,pointer->UK,agg->UT,int->Ti
open Go.World renaming size_alloc->Ud,setCell->XY,alloc_heap_new->UZ,ownsRow_nil->WO,cell?_of_block->Wj
open List renaming mem_append->WD,length_nil->VJ,flatMap_cons->Vh,map_append->WK,length_take->VZ,drop_eq_nil_of_le->Xj,length_drop->VT,length_append->Uo,length_singleton->WJ,mem_singleton->VP,mem_of_getElem?->Uv,drop_eq_getElem_cons->WT,nil_append->Vd,length_cons->Up,flatMap_append->Xw,mem_map->Wl,getElem?_eq_some_iff->UU,length_map->VR,cons_append->Vu,length_pos_iff->YL,mem_cons_of_mem->WW,take_append_drop->Xv,take_of_length_le->VD,mem_cons->VN,getElem?_map->VU,foldl_cons->Yr,eq_nil_of_length_eq_zero->VA,map_cons->WI
open List.Pairwise renaming nil->Yk
open Nat renaming lt_trans->WF,mul_one->XT,zero_add->VY,le_refl->UY,add_zero->YF,zero_mul->Yx,lt_of_lt_of_le->Wp,mod_eq_of_lt->Yj,zero_le->VF,le_trans->VG
open Option renaming some->Ts,none->U8,map->Xb
open Or renaming inl->WQ
variable {D i k n rb:Nat} {S:Nat->Prop} {T t:TypeId} {W b c d w wr:World} {a:Option Addr} {a10 a11 a12 a13 a14 a15 a16 a17 a18 a19 a2 a20 a21 a22 a23 a24 a25 a26 a27 a28 a29 a3 a30 a31 a6 a7 a8 a9 u v x:Value} {f:Nat->Value}
def BB(i:Nat)(l:List (au×Nat)):Nat:=match l.getLast? with
 |none=>i
 |some x=>x.2
def uV(i):BB i []=i:=rfl
def sR(i)(x:au×Nat)(l:List (au×Nat)):BB i (x::l)=BB x.2 l:=by
 unfold BB;cases l with
 |nil=>rfl
 |cons y l=>
  rw[List.getLast?_cons_cons];cases h:(y::l).getLast? with
  |none=>simp at h
  |some z=>rfl
def uU(l:List (au×Nat)):eE l=BB 0 l:=rfl
def dA(s:au):Option au:=
 if s.length<20 then U8 else
 if 4096<bB (s.take 4)then U8 else
 if s.length<20+bB (s.take 4)then U8 else
 if(s.drop (4+bB (s.take 4))).take 16≠eq (bF ((s.drop 4).take (bB (s.take 4))))then U8 else
 Ts ((s.drop 4).take (bB (s.take 4)))
def eR{s b:au}(h:dA s=Ts b):20+b.length<=s.length/\b.length<=4096/\bB (s.take 4)=b.length/\(s.drop 4).take b.length=b:=by
 unfold dA at h;split at h
 .cases h
 split at h
 .cases h
 split at h
 .cases h
 split at h
 .cases h
 cases h;have p:((s.drop 4).take (bB (s.take 4))).length=bB (s.take 4):=RI;rw[p];exact⟨Ph,Ph,rfl,rfl⟩
def bI(f:Nat)(s:au)(i):bm (f+1) s i=match dA s with
  |none=>[]
  |some b=>(b,i+(20+b.length))::bm f (s.drop (20+b.length)) (i+(20+b.length)):=by
 cases h:dA s with
 |none=>
  unfold dA at h;unfold bm;split at h
  .next h1=>rw[if_pos h1]
  next h1=>
  rw[if_neg h1];split at h
  .next c=>rw[if_pos c]
  next c=>
  rw[if_neg c];split at h
  .next A=>rw[if_pos A]
  next A=>
  rw[if_neg A];split at h
  .next m=>rw[if_pos m]
  cases h
 |some b=>
  obtain⟨L,h1,c,A⟩:=eR h;unfold dA at h;conv=>lhs;unfold bm
  rw[c]at h⊢;rw[A]at h⊢;split at h
  .cases h
  next j=>
  rw[if_neg j];split at h
  .cases h
  next g=>
  rw[if_neg g];split at h
  .cases h
  next d=>
  rw[if_neg d];split at h
  .cases h
  next l=>rw[if_neg l]
def rg{s b:au}(t:au)(h:dA s=Ts b):dA (s++t)=Ts b:=by
 obtain⟨L,h1,c,A⟩:=eR h;have am:(s++t).take 4=s.take 4:=List.take_append_of_le_length Ph;have g:((s++t).drop 4).take b.length=(s.drop 4).take b.length:=by
  exact Zce
 have f:((s++t).drop (4+b.length)).take 16=(s.drop (4+b.length)).take 16:=by
  exact Zce
 unfold dA at h⊢;rw[c]at h;rw[am,c,g,f,Uo];split at h
 .cases h
 next l=>
 rw[if_neg Ph];split at h
 .cases h
 next d=>
 rw[if_neg d];split at h
 .cases h
 next j=>
 rw[if_neg Ph];exact h
def FT(s:au)(k):dA (s.take k)=(dA s).filter fun b=>decide (20+b.length<=k):=by
 cases h:dA s with
 |some b=>
  obtain⟨L,h1,f,A⟩:=eR h;by_cases o:20+b.length<=k
  .have cf:(Ts b).filter (fun b=>decide (20+b.length<=k))=Ts b:=by simp[Option.filter,o]
   rw[cf];unfold dA at h⊢;have am:(s.take k).take 4=s.take 4:=Sc;have m:((s.take k).drop 4).take b.length=(s.drop 4).take b.length:=Ra;have j:((s.take k).drop (4+b.length)).take 16=(s.drop (4+b.length)).take 16:=Ra;rw[f]at h;rw[am,f,m,j,VZ];split at h
   .cases h
   rw[if_neg Ph];split at h
   .cases h
   next g=>
   rw[if_neg g];split at h
   .cases h
   rw[if_neg Ph];exact h
  have cf:(Ts b).filter (fun b=>decide (20+b.length<=k))=U8:=by simp[Option.filter,o]
  rw[cf];cases d:dA (s.take k)with
  |none=>rfl
  |some c=>
   obtain⟨l,j1,j2,j3⟩:=eR d;rw[VZ]at l;have am:(s.take k).take 4=s.take 4:=Sc;rw[am,f]at j2;omega
 |none=>
  show _=U8
  cases d:dA (s.take k)with
  |none=>rfl
  |some c=>
   have:=rg (s.drop k) d;rw[Xv,h]at this;cases this
def nX:∀(f:Nat)(s:au)(i:Nat),∀p∈bm f s i,i<=p.2
 |0,_,_=>Zbi
 |f+1,s,i=>by
  intro p x;rw[bI]at x;split at x
  .cases x
  next b hb=>
  rcases VN.1 x with rfl|x
  .show i<=i+_;omega
  have:=nX f _ _ p x;omega
def qL:∀(f:Nat)(s:au)(i k:Nat),bm f (s.take k) i=(bm f s i).takeWhile fun p=>decide (p.2<=i+k)
 |0,_,_,_=>rfl
 |f+1,s,i,k=>by
  rw[bI,bI,FT];cases h:dA s with
  |none=>rfl
  |some b=>
   by_cases o:20+b.length<=k
   .have cf:(Ts b).filter (fun b=>decide (20+b.length<=k))=Ts b:=by simp[Option.filter,o]
    rw[cf];dsimp only;rw[List.takeWhile_cons_of_pos Pp,List.drop_take,qL f];congr 2;funext p;rw[show i+(20+b.length)+(k-(20+b.length))=i+k from Ph]
   have cf:(Ts b).filter (fun b=>decide (20+b.length<=k))=U8:=by simp[Option.filter,o]
   rw[cf];dsimp only;rw[List.takeWhile_cons_of_neg Pp]
def IL:∀(f:Nat)(s:au)(i:Nat),BB i (bm f s i)<=i+s.length
 |0,_,_=>by rw[bm,uV];omega
 |f+1,s,i=>by
  rw[bI];cases h:dA s with
  |none=>dsimp only;rw[uV];omega
  |some b=>
   obtain⟨L,_⟩:=eR h;dsimp only;rw[sR];have:=IL f (s.drop (20+b.length)) (i+(20+b.length));rw[VT]at this;dsimp only;omega
def qy:∀(f:Nat)(s:au)(i:Nat),∀p∈bm f s i,p.2<=BB i (bm f s i)
 |0,_,_=>Zbi
 |f+1,s,i=>by
  intro p x;rw[bI]at x⊢;cases h:dA s with
  |none=>rw[h]at x;cases x
  |some b=>
   rw[h]at x;dsimp only at x⊢;rw[sR];dsimp only;rcases VN.1 x with rfl|x
   .cases cf:bm f (s.drop (20+b.length)) (i+(20+b.length))with
    |nil=>exact UY _
    |cons q l=>
     have h1:=nX f (s.drop (20+b.length)) (i+(20+b.length)) q S0;have c:=qy f (s.drop (20+b.length)) (i+(20+b.length)) q S0;rw[cf]at c;dsimp only;omega
   exact qy f _ _ p x
def oe:∀(f:Nat)(s t:au)(i:Nat),s.length<=f->BB i (bm f s i)=i+s.length->bm (f+t.length) (s++t) i=bm f s i++bm t.length t (i+s.length)
 |0,s,t,i,cf,_=>by
  obtain rfl:s=[]:=VA Ph;simp[bm]
 |f+1,s,t,i,cf,c=>by
  by_cases z:s=[]
  .subst z;rw[Vd,VJ,YF];have:bm (f+1) [] i=[]:=by rw[bI];rfl
   rw[this,Vd];exact il _ _ _ _ Ph (UY _)
  have p:0<s.length:=YL.2 z;rw[show f+1+t.length=(f+t.length)+1 from Ph,bI,bI];rw[bI]at c;cases h:dA s with
  |none=>rw[h]at c;dsimp only at c;rw[uV]at c;omega
  |some b=>
   obtain⟨L,_⟩:=eR h;rw[h]at c;rw[rg t h];dsimp only at c⊢;rw[sR]at c;dsimp only at c;rw[List.drop_append_of_le_length L,Vu,oe f _ t _ Py (by rw[c,VT];omega),VT];rw[show i+(20+b.length)+(s.length-(20+b.length))=i+s.length from Ph]
def eW(b:au):(cF b).length=20+b.length:=RT
def BJ(b:au)(hb:b.length<=4096):dA (cF b)=Ts b:=by
 have am:(cF b).take 4=be 4 b.length:=by unfold cF;rw[List.take_append_of_le_length RQ,VD RQ]
 have d:bB (be 4 b.length)=b.length:=by rw[kJ,Yj Ph]
 have c:(cF b).drop 4=b++eq (bF b):=by
  unfold cF;have h:=List.drop_left (l₁:=be 4 b.length) (l₂:=b++eq (bF b));rw[aI]at h;exact h
 have f:(cF b).drop (4+b.length)=eq (bF b):=by rw[<-List.drop_drop,c];exact List.drop_left
 unfold dA;rw[am,d,c,f,eW,if_neg Ph,if_neg Ph,if_neg Ph,List.take_left,VD Zaw,if_neg Pm]
def xY(b:au)(hb:b.length<=4096)(i:Nat):bm (cF b).length (cF b) i=[(b,i+(20+b.length))]:=by
 rw[eW,show 20+b.length=(19+b.length)+1 from Ph,bI,BJ b hb];dsimp only;rw[List.drop_of_length_le (by rw[eW];omega)];have:bm (19+b.length) [] (i+(20+b.length))=[]:=by rw[show 19+b.length=(18+b.length)+1 from Ph,bI];rfl
 rw[this,show 19+b.length+1=20+b.length from Ph]
def t8{s b:au}(h:eE (aO s)=s.length)(hb:b.length<=4096):aO (s++cF b)=aO s++[(b,s.length+(20+b.length))]:=by
 unfold aO at h⊢;rw[uU]at h;rw[Uo,oe s.length s (cF b) 0 (UY _) (by rw[h];omega),xY b hb,VY]
def Jk{s b:au}(h:eE (aO s)=s.length)(hb:b.length<=4096):eE (aO (s++cF b))=(s++cF b).length:=by
 rw[t8 h hb,Uo,eW];unfold eE;rw[List.getLast?_concat]
def DX(s:au)(k):aO (s.take k)=(aO s).takeWhile fun p=>decide (p.2<=k):=by
 unfold aO;rw[il (s.take k).length s.length (s.take k) 0 (UY _) QD,qL,VY]
def pJ{α:Type}{p:α->Bool}:∀{l:List α},(∀x∈l,p x=true)->l.takeWhile p=l
 |[],_=>rfl
 |x::l,h=>by rw[List.takeWhile_cons_of_pos (h x (List.mem_cons_self ..)),pJ fun y U=>h y (WW _ U)]
def uF(s:au):eE (aO s)<=s.length:=by
 have:=IL s.length s 0;rw[uU];unfold aO;omega
def tW(s:au):aO (s.take (eE (aO s)))=aO s:=by
 rw[DX];refine pJ fun p x=>have:=qy s.length s 0 p x;?_;rw[decide_eq_true_eq,uU];exact this
def Lm(s:au):eE (aO (s.take (eE (aO s))))=(s.take (eE (aO s))).length:=by
 rw[tW,VZ];have:=uF s;omega
structure Dn where
 ses:Int
 ser:Int
 body:nD
deriving DecidableEq
structure lP where
 safe:au
 opn:au
deriving DecidableEq
structure dp where
 share:bq
 bad:Bool
 up:Bool
 done:List Dn
 store:lP
def bk(s:lP):au:=s.safe++s.opn
def gH(s:lP):Int:=if 65536<s.safe.length+s.opn.length then 2 else 0
def fM(s:lP)(b:au):Int:=
 if gH s≠0 then 2 else if 4096<b.length then 1 else if eE (aO (bk s))<(bk s).length then 200 else gH ⟨s.safe,s.opn++cF b⟩
def fT(s:lP)(b:au):lP:=⟨s.safe,s.opn++cF b⟩
def pT(s:lP):lP:=⟨bk s,[]⟩
def fg(s:lP)(keep:Int):Int:=if gH s≠0 then 2 else if keep<0\/(s.opn.length:Int)<keep then 1 else 0
def iM(s:lP)(keep:Int):lP:=⟨s.safe++s.opn.take keep.toNat,[]⟩
def iR(s:lP):lP:=
 let g:=eE (aO (bk s))
 ⟨(bk s).take (min g s.safe.length),((bk s).take g).drop (min g s.safe.length)⟩
def Fq(b:au):Int:=if b.length<16 then 70 else if 16<b.length\/iE<=max (bB (b.take 8)) (bB ((b.take 16).drop 8))then 71 else 0
def A8(b:au):nD:=if Fq b=0 then(bB (b.take 8),bB ((b.take 16).drop 8))else(0,0)
def lJ(n:Int):Nat:=(n%2^64).toNat
def dH(d:Dn):au:=eq (lJ d.ses,lJ d.ser)++eq d.body
def pY(b:au):Bool:=decide (b.length=32)&&(decide (Fq (b.take 16)=0)&&(decide (Fq (b.drop 16)=0)&&decide (max (A8 (b.take 16)).1 (A8 (b.take 16)).2<=1099511627776)))
def nu(b:au):Dn:=⟨(A8 (b.take 16)).1,(A8 (b.take 16)).2,A8 (b.drop 16)⟩
def cI(a b:Dn):Bool:= !(a==b)&&(a.ses==b.ses||(a.ser==b.ser&& !(a.body==b.body)))
def er:List Dn->List au->Option (List Dn)
 |acc,[]=>Ts acc
 |acc,b::l=>if pY b&& !acc.any (cI (nu b))then er (acc++[nu b]) l else U8
def cY(s:au):Option (List Dn):=er [] ((aO s).map (·.1))
def iG(s:au):Bool:=eE (aO s)==s.length
def kr(s:bq):Bool:=decide (1<=s.id)&&(decide (s.id<=7)&&decide (s.x<Rp))
def bJ(s:dp):Int:=
 if gH s.store≠0 then gH s.store else
 if !kr s.share||(!s.up&& !s.done.isEmpty)then 1 else
 if s.up&& !(iG (bk s.store)&&(cY (bk s.store)==Ts s.done))then 1 else 0
def jU:∀(l:List au)(acc r:List Dn),er acc l=Ts r->∃t,r=acc++t/\t.length=l.length
 |[],acc,r,h=>by
  rw[er]at h;cases h;exact⟨[],Pm,rfl⟩
 |b::l,acc,r,h=>by
  rw[er]at h;split at h
  .obtain⟨t,rfl,c⟩:=jU l _ r h;exact⟨nu b::t,Pm,Zbx⟩
  cases h
def jK:∀(l m:List au)(acc r:List Dn),er acc l=Ts r->er acc (l++m)=er r m
 |[],m,acc,r,h=>by
  rw[er]at h;cases h;rfl
 |b::l,m,acc,r,h=>by
  rw[er]at h;rw[Vu,er];split at h
  .next J=>rw[if_pos J];exact jK l m _ r h
  cases h
def zS{s:au}{r:List Dn}(h:cY s=Ts r):r.length=(aO s).length:=by
 obtain⟨t,rfl,b⟩:=jU _ _ _ h;simpa using b
def Fp{s t:au}(h:aO t=aO s):cY t=cY s:=by unfold cY;rw[h]
def tB:∀(l:List au)(acc r:List Dn),er acc l=Ts r->acc.Pairwise (fun a b=>cI b a=false)->r.Pairwise fun a b=>cI b a=false
 |[],acc,r,h,c=>by
  rw[er]at h;cases h;exact c
 |b::l,acc,r,h,c=>by
  rw[er]at h;split at h
  .next J=>
   refine tB l _ r h ?_;rw[V7,Wh]at J;rw[List.pairwise_append];refine⟨c,List.pairwise_singleton _ _,fun x m y U=>?_⟩;rw[VP]at U;subst U;have:=J.2;rw[List.any_eq_false]at this;simpa using this x m
  cases h
def BZ(a b):cI a b=cI b a:=by
 unfold cI;rw[show(a==b)=(b==a)from BEq.comm,show(a.ses==b.ses)=(b.ses==a.ses)from BEq.comm,show(a.ser==b.ser)=(b.ser==a.ser)from BEq.comm,show(a.body==b.body)=(b.body==a.body)from BEq.comm]
def DF(a):cI a a=false:=by unfold cI;simp
def AV{l:List Dn}(h:l.Pairwise fun a b=>cI b a=false):∀a∈l,∀b∈l,cI a b=false:=by
 induction l with
 |nil=>intro a f;cases f
 |cons x l m=>
  rw[List.pairwise_cons]at h;intro a f b hb;rcases VN.1 f with j|d<;>rcases VN.1 hb with g|c
  .rw[j,g];exact DF _
  .rw[j,BZ];exact h.1 b c
  .rw[g];exact h.1 a d
  exact m h.2 a d b c
def FA{s:au}{r:List Dn}(h:cY s=Ts r):∀a∈r,∀b∈r,cI a b=false:=
 AV (tB _ _ _ h Yk)
def Ac(s t:au):bB (s++t)=bB s*256^t.length+bB t:=by
 unfold bB;rw[List.foldl_append,vo];rfl
def Ck{x:nD}(h1:x.1<iE)(c:x.2<iE):Fq (eq x)=0/\A8 (eq x)=x:=by
 have am:(eq x).take 8=be 8 x.1:=by unfold eq;rw[List.take_append_of_le_length RQ,VD RQ]
 have b:((eq x).take 16).drop 8=be 8 x.2:=by
  rw[VD Zaw];unfold eq;have h:=List.drop_left (l₁:=be 8 x.1) (l₂:=be 8 x.2);rwa[aI]at h
 have L:Fq (eq x)=0:=by
  unfold Fq;rw[am,b,aT,kJ,kJ,Yj (WF h1 Pi),Yj (WF c Pi),if_neg Pi,if_neg];rintro(h|h)
  .omega
  rcases Nat.le_total x.1 x.2 with A|A
  .rw[Nat.max_eq_right A]at h;omega
  rw[Nat.max_eq_left A]at h;omega
 refine⟨L,?_⟩;unfold A8;rw[if_pos L,am,b,kJ,kJ,Yj (WF h1 Pi),Yj (WF c Pi)]
structure KD(d:Dn):Prop where
 s0:0<=d.ses
 s1:d.ses<=1099511627776
 n0:0<=d.ser
 n1:d.ser<=1099511627776
 b0:d.body.1<iE
 b1:d.body.2<iE
def gl(d):(dH d).length=32:=by unfold dH;rw[Uo,aT,aT]
def Gd{d}(h:KD d):pY (dH d)=true/\nu (dH d)=d:=by
 obtain⟨s0,s1,n0,n1,b0,b1⟩:=h;have am:(dH d).take 16=eq (lJ d.ses,lJ d.ser):=by unfold dH;rw[List.take_append_of_le_length Zaw,VD Zaw]
 have f:(dH d).drop 16=eq d.body:=by
  unfold dH;have h:=List.drop_left (l₁:=eq (lJ d.ses,lJ d.ser)) (l₂:=eq d.body);rwa[aT]at h
 have b:lJ d.ses=d.ses.toNat:=Zbp;have c:lJ d.ser=d.ser.toNat:=Zbp;have g:iE=2305843009213693951:=rfl;obtain⟨a1,a2⟩:=Ck (x:=(lJ d.ses,lJ d.ser)) (by rw[b];show d.ses.toNat<iE;omega) (by rw[c];show d.ser.toNat<iE;omega);obtain⟨a3,a4⟩:=Ck (x:=d.body) b0 b1;refine⟨?_,?_⟩
 .unfold pY;rw[gl,am,f,a1,a2,a3,b,c];simp;omega
 unfold nu;rw[am,f,a2,a4,b,c];cases d;simp at s0 n0⊢;omega
def Kx{s:au}{l:List Dn}{d}(b:iG s=true)(h:cY s=Ts l)(y:KD d)(J:l.any (cI d)=false):
  cY (s++cF (dH d))=Ts (l++[d])/\iG (s++cF (dH d))=true:=by
 unfold iG at b⊢;rw[beq_iff_eq]at b;have p:(dH d).length<=4096:=by rw[gl];omega
 obtain⟨c,f⟩:=Gd y;refine⟨?_,by rw[beq_iff_eq];exact Jk b p⟩;unfold cY at h⊢;rw[t8 b p,WK,jK _ _ _ _ h,WI,List.map_nil,er,c,f,J];rfl
def uH(s):bk (iR s)=(bk s).take (eE (aO (bk s))):=by
 unfold iR bk;dsimp only;refine P1 (eE (aO (s.safe++s.opn))) fun g S=>?_;rw[S];have:(s.safe++s.opn).take (min g s.safe.length)=((s.safe++s.opn).take g).take (min g s.safe.length):=by rw[List.take_take,Nat.min_eq_left (Nat.min_le_left _ _)]
 rw[this,Xv]
def MC(s):cY (bk (iR s))=cY (bk s):=by rw[uH];exact Fp (tW _)
def J8(s):iG (bk (iR s))=true:=by
 rw[uH];unfold iG;rw[beq_iff_eq];exact Lm _
def akB:au:=[108,101,97,102]
def eH(s:au):nD:=cj akB [s]
def AJ(s:nD):UV:=UT #[ag s.1,ag s.2]
def Cj(s:au)(v w)(z:aJ w v s)(p:s.length<=60000000000000):VB UB 90 #[v] w (bM (AJ (eH s)) w):=by
 have r:=Tn z;obtain⟨x,y,rfl⟩:=z.form;refine P1 w.heap.size fun D C=>P1 (w.alloc (Tq #[Ti Tt 0,Ti Tt 0] 56)) fun f d=>have B:=Tn (show aq w f from Pq);have b:Hid (f.heap[D]?=Ts (Tq #[Ti Tt 0,Ti Tt 0] 56 (0,0))):=Tn (PP d C);have m:w.heap.size<=D:=Ph;?_;clear z;go_enter func90,ntmps90;go_upto_region 1 with(fail);try rw[d]
 try rw[C]
 clear d C;go_wp2_with fail;refine(kB ⟨#[108,101,97,102]⟩ [s] _ 1 1 _ rfl Pi Pi (by rw[zK];show 5+4+_<=_;omega) (aaF (r.ext B) _)).mono ?_;rintro e t⟨rfl,q⟩;have g:=aa B (aa (af P0 _) q);have M:=((aa (af P0 _) q).block D (UE.1 b).1).trans b;refine P1 (cj (⟨#[108,101,97,102]⟩:ByteArray).data.toList [s]) fun S l=>have c:Hid (eH s=S):=Tn (l▸rfl);?_;rw[l];have E:=bz M m g (ag S.1) (ag S.2);refine PI t D (ag S.1) (ag S.2) fun I Y=>?_;rw[Y]at E;refine P4 E Y fun j o=>PM M fun A am=>PO M fun u g1=>?_;clear g q M E Y l;go_wp2_with fail;rw[o.out];exact PM j.1 fun q0 q1=>VC (v:=UT #[ag S.1,ag S.2]) (by simp[Vo,results90,go_sem,q0,q1]) rfl ⟨by rw[c.out];rfl,j.2⟩
def Lx(b:au)(k:Nat):Nat:=bB (b.take (min k 8))
def Lp(b:au)(k:Nat):Nat:=bB ((b.take (min k 16)).drop 8)
def aj4(s:au):bB s<256^s.length:=by
 unfold bB;suffices h:∀(s:au)(n m:Nat),n<m->s.foldl (fun n x=>n*256+x.toNat) n<m*256^s.length by
  have:=h s 0 1 Pi;simpa using this
 intro s;induction s with
 |nil=>intro n m h;simpa using h
 |cons x s b=>
  intro n m h;have c:=x.toNat_lt;have:=b (n*256+x.toNat) (m*256) Ph;rw[Yr,Up,Nat.pow_succ,Nat.mul_comm (256^s.length) 256,<-Nat.mul_assoc];exact this
def OI{b:au}{c:UInt8}(h:b[k]?=Ts c)(o:k<8):Lx b (k+1)=Lx b k*256+c.toNat:=by
 unfold Lx;rw[show min (k+1) 8=k+1 from Ph,show min k 8=k from Ph];exact eO (f:=fun(n:Nat)(x:UInt8)=>n*256+x.toNat) h 0
def MQ{b:au}{c:UInt8}(h:b[k]?=Ts c)(d:8<=k)(o:k<16):Lp b (k+1)=Lp b k*256+c.toNat:=by
 unfold Lp;rw[show min (k+1) 16=k+1 from Ph,show min k 16=k from Ph,aW h,List.drop_append_of_le_length (by rw[VZ];have:=(UU.1 h).1;omega)];unfold bB;rw[List.foldl_append];rfl
def Dq{b:au}(o:8<=k):Lx b (k+1)=Lx b k:=by unfold Lx;rw[show min (k+1) 8=8 from Ph,show min k 8=8 from Ph]
def Cd{b:au}(o:k<8\/16<=k):Lp b (k+1)=Lp b k:=by
 unfold Lp;rcases o with h|h
 .rw[Xj QD,Xj QD]
 rw[show min (k+1) 16=16 from Ph,show min k 16=16 from Ph]
def afE(b:au)(k)(o:k<=7):Lx b k<72057594037927936:=by
 unfold Lx;have h:=aj4 (b.take (min k 8));have:(b.take (min k 8)).length<=7:=QD;exact Zb5
def ae9(b:au)(k)(o:k<=15):Lp b k<72057594037927936:=by
 unfold Lp;have h:=aj4 ((b.take (min k 16)).drop 8);have:((b.take (min k 16)).drop 8).length<=7:=by rw[VT,VZ];omega
 exact Zb5
def ahB{x:Nat}(hn:n<72057594037927936)(m:x<256):bits .or Tt ((n:Int)*256) (x:Int)=((n*256+x:Nat):Int):=by
 have h:=bits_or_u64_nat (n*256) x Ph Ph;exact U6
def Ld{B:Nat}{y:UV}(d:c.heap[B]?=Ts (Tq #[x,y] t (0,0)))(f:w.heap.size<=B)(g:aq w c)(u:UV):
  (c.setCell ⟨B,0,U8⟩ u).heap[B]?=Ts (Tq #[u,y] t (0,0))/\aq w (c.setCell ⟨B,0,U8⟩ u):=
 ⟨(VE c B 0 _ _ _ d).trans Pm,((Uh (S:=fun _=>False) g).onto (Uz (S:=fun b=>b=B) c ⟨B,0,U8⟩ u rfl) (fun i hi h=>Ph)).ext (fun _ _ h=>h)⟩
def Kj{B:Nat}{y:UV}(d:c.heap[B]?=Ts (Tq #[x,y] t (0,0)))(f:w.heap.size<=B)(g:aq w c)(u:UV):
  (c.setCell ⟨B,1,U8⟩ u).heap[B]?=Ts (Tq #[x,u] t (0,0))/\aq w (c.setCell ⟨B,1,U8⟩ u):=
 ⟨(VE c B 1 _ _ _ d).trans Pm,((Uh (S:=fun _=>False) g).onto (Uz (S:=fun b=>b=B) c ⟨B,1,U8⟩ u rfl) (fun i hi h=>Ph)).ext (fun _ _ h=>h)⟩
def Hq(b:au)(v w)(z:aJ w v b)(p:b.length<=1000000000):VB UB 182 #[v] w (bM (UW #[AJ (A8 b),Ti Tl (Fq b)]) w):=by
 obtain⟨a,c,rfl,h1,h2,A⟩:=z;have H3:=Tn A;refine P1 b.length fun n hn=>have HN:=Tn hn;?_;rw[hn]at h1 p⊢;refine P1 w.heap.size fun D C=>P1 (w.alloc (Tq #[Ti Tt 0,Ti Tt 0] 56)) fun f d=>have B:=Tn (show aq w f from Pq);have Z:Hid (f.heap[D]?=Ts (Tq #[Ti Tt 0,Ti Tt 0] 56 (0,0))):=Tn (PP d C);have H:w.heap.size<=D:=Ph;?_;clear hn;by_cases hsh:n<16
 .have HOE:Hid (Fq b=70):=Tn (by unfold Fq;rw[HN.out,if_pos hsh]);have F:Hid (A8 b=(0,0)):=Tn (by unfold A8;rw[if_neg (by rw[HOE.out];decide)]);have M:=Z.out;have E:=bz M H B (Ti Tt 0) (Ti Tt 0);refine PI f D (Ti Tt 0) (Ti Tt 0) fun I Y=>?_;rw[Y]at E;refine P4 E Y fun l G=>PM M fun e0 am=>PO M fun g0 g1=>?_;rw[HOE.out,F.out];clear Y;go_enter func182,ntmps182;go_upto_region 1 with fail;try rw[d]
  try rw[C]
  clear d C;go_wp2_with fail;rw[G.out];exact PM l.1 fun q0 q1=>VC (v:=UW #[UT #[Ti Tt 0,Ti Tt 0],Ti Tl 70]) Qb rfl ⟨rfl,l.2⟩
 refine P1 (A8 b) fun R1 V=>P1 (Fq b) fun R2 W=>?_;rw[V,W];refine P4 V W fun S T=>?_;clear V W;go_enter func182,ntmps182;go_upto_region 1 with fail;try rw[d]
 try rw[C]
 clear d C;go_wp2;go_loopw [12] (fun j wr=>∃k:Nat,k<=n/\j=Ti Tl k/\wr.heap[D]?=Ts (Tq #[ag (Lx b k),ag (Lp b k)] 56 (0,0))/\aq w wr) (fun j _=>n-(VS j).toNat)
 case atStart=>exact⟨0,VF _,rfl,Z,B⟩
 obtain⟨k,hk,rfl,r,hE⟩:=hrel;refine P4 r hE fun q ys=>PM r fun e0 am=>PO r fun g0 g1=>?_;by_cases R:k<n
 .obtain⟨x,m⟩:=ay HN R;obtain⟨g,o,rfl,J⟩:=(H3.ext ys) k x m;have X:=x.toNat_lt;have HX:=Tn m;by_cases h8:k<8
  .have u:=afE b k Ph;have L:=Tn (ahB u X);have hdiv:(k:Int)/8=0:=Ph;refine P1 (Lx b k) fun s0 P=>P4 (OI HX h8) (Cd (b:=b) (.inl h8)) fun Q HK=>?_;rw[P]at u L Q e0 q;have t:=Tn (Ld q H ys (ag (s0*256+x.toNat)));clear P;go_wp2;go_roundw
   case rel=>
    exact Zfz
   case measure=>simp[VS];omega
  by_cases N:k<16
  .have y:=ae9 b k Ph;have L:=Tn (ahB y X);have hdiv:(k:Int)/8=1:=Ph;refine P1 (Lp b k) fun s1 O=>P4 (MQ HX Ph N) (Dq (b:=b) (show 8<=k from Ph)) fun Q HK=>?_;rw[O]at y L Q am q;have t:=Tn (Kj q H ys (ag (s1*256+x.toNat)));clear O;go_wp2;go_roundw
   case rel=>
    exact Zfz
   case measure=>simp[VS];omega
  refine P4 (Cd (b:=b) (.inr (show 16<=k from Ph))) (Dq (b:=b) (show 8<=k from Ph)) fun Q HK=>?_;go_wp2;go_roundw
  case rel=>exact⟨k+1,Ph,Pt,by rw[Q.out,HK.out];exact q.out,ys⟩
  case measure=>simp[VS];omega
 obtain rfl:k=n:=by omega
 have a0:Lx b k=bB (b.take 8):=by unfold Lx;rw[show min k 8=8 from Ph]
 have a1:Lp b k=bB ((b.take 16).drop 8):=by unfold Lp;rw[show min k 16=16 from Ph]
 refine P1 (Lx b k) fun s0 u=>P1 (Lp b k) fun s1 y=>have s:Hid (Fq b=if 16<k\/iE<=max s0 s1 then 71 else 0):=Tn (by unfold Fq;rw[HN.out,if_neg hsh,<-a0,<-a1,u,y]);have HHH:Hid (Fq b=0->A8 b=(s0,s1)):=Tn (fun h=>by unfold A8;rw[if_pos h,<-a0,<-a1,u,y]);?_;rw[u,y]at q;rw[u]at e0;rw[y]at am;clear a0 a1 u y;by_cases N:16<k
 .rw[if_pos (.inl N)]at s;exact TM
 have d16:decide (16<(k:Int))=false:=by simp;omega
 by_cases K:iE<=max s0 s1
 .have U:2305843009213693951<=max s0 s1:=K;have dm:decide ((2305843009213693951:Int)<=max (s0:Int) (s1:Int))=true:=by rw[decide_eq_true_eq];omega
  rw[if_pos (.inr K)]at s;exact TM
 have U:¬2305843009213693951<=max s0 s1:=K;have dm:decide ((2305843009213693951:Int)<=max (s0:Int) (s1:Int))=false:=by rw[decide_eq_false_iff_not];omega
 rw[if_neg (fun h=>h.elim N K)]at s;have F:=Tn (HHH s);have E:=bz q H ys (ag s0) (ag s1);refine PI wr D (ag s0) (ag s1) fun I Y=>?_;rw[Y]at E;refine P4 E Y fun l G=>?_;clear Y;go_wp2_with fail;rw[G.out];exact PM l.1 fun q0 q1=>VC (v:=UW #[UT #[ag s0,ag s1],Ti Tl 0]) Qb rfl ⟨Ri,l.2⟩
structure fp(w:UN)(rb A B:Nat)(l:List aQ):Prop where
 ex:∃(W0:UN)(a:Option VW)(n c:Nat)(lx:List (aQ×bU)),aq W0 w/\W0.heap.size<=A/\VX w rb 267 (Tm a n c)/\lx.map (·.1)=l/\lx.length=n/\n<=c/\c<=VL/\cr 3 fW w a lx/\(∀ad,a=Ts ad->B<=ad.block/\ad.block<rb)/\(∀p∈lx,bK W0 p.1 p.2)/\aU W0
 oa:A<=rb
 ob:B<=rb
 small:b8 l
 short:l.length<=1000000
def mv(w:UN)(rb:Nat)(l:List aQ):Prop:=∃A B,fp w rb A B l
def NR{f:List (aQ×bU)}(h:cr 3 fW w a f)(P:Fr S w d)(l:∀c,a=Ts c->¬S c.block):cr 3 fW d a f:=fun j x m=>by
 obtain⟨b,o,rfl,k0,q,g⟩:=h j x m;have zs:=l _ rfl;have R:=jm k0;exact⟨b,o,rfl,(P.cell (p:=⟨b,o+j*3,U8⟩) R zs).trans k0,(P.cell (p:=⟨b,o+j*3+1,U8⟩) R zs).trans q,(P.cell (p:=⟨b,o+j*3+2,U8⟩) R zs).trans g⟩
def fp.fr{A B}{l:List aQ}(h:fp w rb A B l)(P:Fr S w b)(d:∀k,S k->(A<=k/\k<B)\/rb<k):fp b rb A B l:=by
 obtain⟨f,a,n,c,y,h1,x,t,r,z,u,s,p,o,g,m⟩:=h.ex;have oa:=h.oa;have ob:=h.ob;refine⟨⟨f,a,n,c,y,?_,x,P.boxed t (fun e=>by have:=d _ e;omega),r,z,u,s,NR p P (fun q j e=>by have:=d _ e;have:=o q j;omega),o,g,m⟩,oa,ob,h.small,h.short⟩;exact((Uh (S:=fun _=>False) h1).onto P (fun i hi e=>by have:=d _ e;omega)).ext (fun _ _ h=>h)
def mv.fr{l:List aQ}(h:mv w rb l)(P:Fr S w b)(c:∀k,S k->rb<k):mv b rb l:=by
 obtain⟨A,B,h⟩:=h;exact⟨A,B,h.fr P (fun k o=> .inr (c k o))⟩
def fp.ext{A B}{l:List aQ}(h:fp w rb A B l)(g:aq w b):fp b rb A B l:=h.fr (Uh (S:=fun _=>False) g) (fun _ o=>o.elim)
def mv.ext{l:List aQ}(h:mv w rb l)(g:aq w b):mv b rb l:=h.fr (Uh (S:=fun _=>False) g) (fun _ o=>o.elim)
def fp.lt{A B}{l:List aQ}(h:fp w rb A B l):rb<w.heap.size:=by
 obtain⟨f,a,n,c,d,_,_,b,_⟩:=h.ex;exact b.lt
def mv.lt{l:List aQ}(h:mv w rb l):rb<w.heap.size:=by
 obtain⟨A,B,h⟩:=h;exact h.lt
def mv.small{l:List aQ}(h:mv w rb l):b8 l:=by obtain⟨A,B,h⟩:=h;exact h.small
def mv.short{l:List aQ}(h:mv w rb l):l.length<=1000000:=by obtain⟨A,B,h⟩:=h;exact h.short
def fp.new{f B}{l:List aQ}(g:aq f b)(H:aU f)(m:Hd f B l v b)(u:B<=b.heap.size)(z:b8 l)(p:l.length<=1000000):fp (b.alloc (Tq #[v] 267)) b.heap.size f.heap.size B l:=by
 obtain⟨a,n,c,q,rfl,r,A,s,y,o,x⟩:=m;obtain⟨C,D,m,_,_,j⟩:=rK A o;cases m;refine⟨⟨f,a,n,c,q,af g _,UY _,Wt _ _ _,r,A,s,y,j.ext (af P0 _),fun t d=>?_,x,H⟩,g.size,u,z,p⟩;exact o.lt t.block (by rw[d];rfl)
def dK:Xo:= .panicked [{v:= .iface 262 (UT #[]),recovered:=false}]
def bD{α:Type}(S:Nat->Prop)(X:Option α)(w:UN)(R:α->Xo->UN->Prop)(e:Xo)(b:UN):Prop:=match X with
 |some a=>R a e b/\Fr S w b
 |none=>e=dK/\Fr S w b
def bD.some{α:Type}{X:Option α}{a:α}{R:α->Xo->UN->Prop}{e}(c:X= .some a)(h:R a e b)(P:Fr S w b):bD S X w R e b:=by
 subst c;exact⟨h,P⟩
def bD.none{α:Type}{X:Option α}{R:α->Xo->UN->Prop}(c:X= .none)(P:Fr S w b):bD S X w R dK b:=by
 subst c;exact⟨rfl,P⟩
def bD.imp{α:Type}{X:Option α}{R c:α->Xo->UN->Prop}{e}(h:bD S X w R e b)(d:∀a,R a e b->c a e b):bD S X w c e b:=by
 cases X with
 |none=>exact h
 |some a=>exact⟨d a h.1,h.2⟩
def fV(w:UN):VB UB 162 #[U1 true] w (fun e b=>e=UO (UW #[])/\b=w):=by
 go_enter func162,ntmps162;exact Ux
def dV(w:UN):VB UB 162 #[U1 false] w (fun e b=>e=dK/\b=w):=by
 go_enter func162,ntmps162;exact Zb9
def Nl{b o:Nat}{p:aQ×bU}{c:List (aQ×bU)}(h:cr 3 fW w (Ts ⟨b,o,U8⟩) (p::c)):cr 3 fW w (Ts ⟨b,o+3,U8⟩) c:=fun j x m=>by
 obtain⟨f,o',d,h1⟩:=h (j+1) x (by rw[List.getElem?_cons_succ];exact m);cases d;exact⟨_,_,rfl,by rw[show o+3+j*3=o+(j+1)*3 from Ph];exact h1⟩
def fp.head{A B t}{b:au}{l:List aQ}{M:List aQ}(h:fp w rb A B (.mk t b l::M)):∃(f:UN)(x:bU)(g o n c:Nat),aq f w/\f.heap.size<=A/\aU f/\bK f (.mk t b l) x/\bi (.mk t b l)/\vg w g o x/\x.t=t/\n<=1000000/\n+1<=c/\c<=VL/\VX w rb 267 (Tm (Ts ⟨g,o,U8⟩) (n+1) c)/\
  ∀z C,(C=Ts ⟨g,o+3,U8⟩\/(n=0/\C=Ts ⟨g,o,U8⟩))->Fr (fun k=>k=rb) w z->VX z rb 267 (Tm C n (c-1))->fp z rb A B M:=by
 obtain⟨f,a,n,c,d,h1,V,Y,s,hn,Q,J,F,O,E,H⟩:=h.ex;have r:=h.small;have T:=h.short;have oa:=h.oa;rw[b8]at r;rw[Up]at T;cases d with
 |nil=>cases s
 |cons p d=>
  rw[WI]at s;injection s with e1 R
  rw[Up]at hn;obtain⟨g,o,rfl,m⟩:=F 0 p rfl;have hl:M.length=d.length:=by rw[<-R,VR]
  have I:=E p (.head _);rw[e1]at I;subst hn;rw[Yx,YF]at m;have D:=O _ rfl;refine⟨f,p.2,g,o,d.length,c,h1,V,H,I,r.1,m,by rw[bK]at I;exact I.1,Ph,Q,J,Y,fun z C W P hb=>?_⟩;have K:aq f z:=((Uh (S:=fun _=>False) h1).onto P (fun i hi e=>by have X:i=rb:=e;omega)).ext (fun _ _ h=>h);have G:cr 3 fW z C d:=by
   rcases W with rfl|⟨L,rfl⟩
   .exact NR (Nl F) P (fun Z u e=>by cases u;have X:g=rb:=e;have R:B<=g/\g<rb:=D;omega)
   obtain rfl:d=[]:=VA L;intro j y U;simp at U
  exact⟨⟨f,C,d.length,c-1,d,K,V,hb,R,rfl,Ph,Ph,G,fun Z u=>(by
   rcases W with rfl|⟨_,rfl⟩<;>(cases u;exact D)),fun q N=>E q (.tail _ N),H⟩,h.oa,h.ob,r.2,Ph⟩
def fp.none{A B}(h:fp w rb A B []):∃(a:Option VW)(c:Nat),VX w rb 267 (Tm a 0 c):=by
 obtain⟨f,a,n,c,j,h1,g,d,b,hn,_⟩:=h.ex;rw[List.map_eq_nil_iff]at b;subst b;subst hn;exact⟨a,c,d⟩
def mv.none(h:mv w rb []):∃(a:Option VW)(c:Nat),VX w rb 267 (Tm a 0 c):=by
 obtain⟨A,B,h⟩:=h;exact h.none
def DS{f B}{l:List aQ}(h:Hd f B l u w)(hb:rb<B):Hd f B l u (w.setCell ⟨rb,0,U8⟩ v):=by
 obtain⟨a,n,c,p,h1,o,A,q,j,b,m⟩:=h;exact⟨a,n,c,p,h1,o,A,q,j,eM b (Uz (S:=fun k=>k=rb) w ⟨rb,0,U8⟩ v rfl) (fun g d e=>by have:=bE b g d;have r:g=rb:=e;omega),m⟩
def CA(t)(b:au)(l:List aQ)(h:t≠2\/br 8 (.mk t b l)=false):iD (.mk t b l)=U8:=by
 unfold iD;exact Tv
def Lk(t)(b:au)(l:List aQ)(h1:t=2)(c:br 8 (.mk t b l)=true):iD (.mk t b l)=Ts (eP b):=by
 unfold iD;exact Ur
def Bg(L:List aQ)(rb A B w)(h:fp w rb A B L):VB UB 218 #[UK (Ts ⟨rb,0,U8⟩),.func (.func 219) #[] #[]] w (bD (·=rb) (bX iD L) w fun p e w'=>e=UO (Ti Tl p.1)/\fp w' rb A B p.2):=by
 have eg:∀args w,(Wu 219 args).run UB w= .ok (.enter 219 args) w:=Vv func219 Pg rfl;cases L with
 |nil=>
  obtain⟨a,c,d⟩:=h.none;have c0:=d.cell;go_enter func218,ntmps218;exact Zq
 |cons y O=>
  obtain⟨t,b,l⟩:=y;have ad:=h.lt;obtain⟨f,x,g,o,n,c,r,ac,H,R,z,m,G,hn,ah,ab,d,j⟩:=h.head;refine P3 H j d fun W M K=>have c0:=d.cell;have s:=Tn (Ls t b l x w (H.ext r) (ZI r _ R) z);?_;obtain⟨C,ba,bl,bc,la,ll,lc⟩:=x;simp only at G;subst G;unfold bw at s;simp only at s;obtain⟨k0,N,Q⟩:=m;simp only at k0 N Q;go_enter func218,ntmps218;go_wp2_with fail;refine(fV _).mono ?_;rintro e V⟨rfl,rfl⟩;go_wp2_with fail;refine s.out.mono ?_;rintro e w2⟨u,k,rfl,D,Z⟩;refine P4 D (aC D K) fun F q=>have d0:=q.out.cell;have f0:=q.out.frozen;?_;rcases Z with⟨h1,rfl,rfl⟩|⟨h1,J,rfl,rfl⟩|⟨h1,J,X,rfl⟩
  .have E:=Tn (CA C b l (.inl h1));exact Z7
  .have E:=Tn (CA C b l (.inr J));exact Z7
  have E:=Tn (Lk C b l h1 J);have T:=Tn X;go_wp2_with fail;refine(fV _).mono ?_;rintro e U⟨rfl,rfl⟩;by_cases I:c=1
  .obtain rfl:n=0:=by omega
   subst I;go_wp2;go_ret;have P:=(Uh (S:=fun k=>k=rb) F).trans (Uz (S:=fun k=>k=rb) _ ⟨rb,0,U8⟩ (Tm (Ts ⟨g,o,U8⟩) 0 0) rfl);refine bD.some (a:=(eP b,O)) Y8 ?_ P;exact Zfy
  have Y:¬c=1:=I;go_wp2;go_ret;have P:=(Uh (S:=fun k=>k=rb) F).trans (Uz (S:=fun k=>k=rb) _ ⟨rb,0,U8⟩ (Tm (Ts ⟨g,o+3,U8⟩) n (c-1)) rfl);refine bD.some (a:=(eP b,O)) Y8 ?_ P;exact Tg
def y8(t)(b:au)(l:List aQ)(h:t≠12\/br 8 (.mk t b l)=false):cZ (.mk t b l)=U8:=by
 unfold cZ;exact Tv
def Gy(t)(b:au)(l:List aQ)(h1:t=12)(c:br 8 (.mk t b l)=true):cZ (.mk t b l)=Ts (b):=by
 unfold cZ;exact Ur
def xS(L:List aQ)(rb A B w)(h:fp w rb A B L):VB UB 213 #[UK (Ts ⟨rb,0,U8⟩),.func (.func 214) #[] #[]] w (bD (·=rb) (bX cZ L) w fun p e w'=>e=UO (UH (aL p.1))/\fp w' rb A B p.2):=by
 have eg:∀args w,(Wu 214 args).run UB w= .ok (.enter 214 args) w:=Vv func214 Pg rfl;cases L with
 |nil=>
  obtain⟨a,c,d⟩:=h.none;have c0:=d.cell;go_enter func213,ntmps213;exact Zq
 |cons y O=>
  obtain⟨t,b,l⟩:=y;have ad:=h.lt;obtain⟨f,x,g,o,n,c,r,ac,H,R,z,m,G,hn,ah,ab,d,j⟩:=h.head;refine P3 H j d fun W M K=>have c0:=d.cell;have s:=Tn (Gv t b l x w (H.ext r) (ZI r _ R) z);?_;obtain⟨C,ba,bl,bc,la,ll,lc⟩:=x;simp only at G;subst G;unfold bw at s;simp only at s;obtain⟨k0,N,Q⟩:=m;simp only at k0 N Q;go_enter func213,ntmps213;go_wp2_with fail;refine(fV _).mono ?_;rintro e V⟨rfl,rfl⟩;go_wp2_with fail;refine s.out.mono ?_;rintro e w2⟨u,k,rfl,D,Z⟩;refine P4 D (aC D K) fun F q=>have d0:=q.out.cell;have f0:=q.out.frozen;?_;rcases Z with⟨h1,rfl,rfl⟩|⟨h1,J,rfl,rfl⟩|⟨h1,J,X,rfl⟩
  .have E:=Tn (y8 C b l (.inl h1));exact Z8
  .have E:=Tn (y8 C b l (.inr J));exact Z8
  have E:=Tn (Gy C b l h1 J);have T:=Tn X;go_wp2_with fail;refine(fV _).mono ?_;rintro e U⟨rfl,rfl⟩;by_cases I:c=1
  .obtain rfl:n=0:=by omega
   subst I;go_wp2;go_ret;have P:=(Uh (S:=fun k=>k=rb) F).trans (Uz (S:=fun k=>k=rb) _ ⟨rb,0,U8⟩ (Tm (Ts ⟨g,o,U8⟩) 0 0) rfl);refine bD.some (a:=(b,O)) Y9 ?_ P;exact Zfy
  have Y:¬c=1:=I;go_wp2;go_ret;have P:=(Uh (S:=fun k=>k=rb) F).trans (Uz (S:=fun k=>k=rb) _ ⟨rb,0,U8⟩ (Tm (Ts ⟨g,o+3,U8⟩) n (c-1)) rfl);refine bD.some (a:=(b,O)) Y9 ?_ P;exact Tg
def mY(c:List aQ)(rb w)(h:mv w rb c):VB UB 213 #[UK (Ts ⟨rb,0,U8⟩),.func (.func 214) #[] #[]] w (bD (·=rb) (bX cZ c) w fun p e b=>e=UO (UH (aL p.1))/\mv b rb p.2):=by
 obtain⟨A,B,h⟩:=h;exact(xS c rb A B w h).mono fun e b k=>k.imp fun p q=>⟨q.1,A,B,q.2⟩
def yw(t)(b:au)(l:List aQ)(h:t≠1\/br 8 (.mk t b l)=false):ij (.mk t b l)=U8:=by
 unfold ij;exact Tv
def Ha(t)(b:au)(l:List aQ)(h1:t=1)(c:br 8 (.mk t b l)=true):ij (.mk t b l)=Ts (b !=[0]):=by
 unfold ij;exact Ur
def xL(L:List aQ)(rb A B w)(h:fp w rb A B L):VB UB 216 #[UK (Ts ⟨rb,0,U8⟩),.func (.func 217) #[] #[]] w (bD (·=rb) (bX ij L) w fun p e w'=>e=UO (U1 p.1)/\fp w' rb A B p.2):=by
 have eg:∀args w,(Wu 217 args).run UB w= .ok (.enter 217 args) w:=Vv func217 Pg rfl;cases L with
 |nil=>
  obtain⟨a,c,d⟩:=h.none;have c0:=d.cell;go_enter func216,ntmps216;exact Zq
 |cons y O=>
  obtain⟨t,b,l⟩:=y;have ad:=h.lt;obtain⟨f,x,g,o,n,c,r,ac,H,R,z,m,G,hn,ah,ab,d,j⟩:=h.head;refine P3 H j d fun W M K=>have c0:=d.cell;have s:=Tn (FU t b l x w (H.ext r) (ZI r _ R) z);?_;obtain⟨C,ba,bl,bc,la,ll,lc⟩:=x;simp only at G;subst G;unfold bw at s;simp only at s;obtain⟨k0,N,Q⟩:=m;simp only at k0 N Q;go_enter func216,ntmps216;go_wp2_with fail;refine(fV _).mono ?_;rintro e V⟨rfl,rfl⟩;go_wp2_with fail;refine s.out.mono ?_;rintro e w2⟨u,k,rfl,D,Z⟩;refine P4 D (aC D K) fun F q=>have d0:=q.out.cell;have f0:=q.out.frozen;?_;rcases Z with⟨h1,rfl,rfl⟩|⟨h1,J,rfl,rfl⟩|⟨h1,J,X,rfl⟩
  .have E:=Tn (yw C b l (.inl h1));exact Z9
  .have E:=Tn (yw C b l (.inr J));exact Z9
  have E:=Tn (Ha C b l h1 J);have T:=Tn X;go_wp2_with fail;refine(fV _).mono ?_;rintro e U⟨rfl,rfl⟩;by_cases I:c=1
  .obtain rfl:n=0:=by omega
   subst I;go_wp2;go_ret;have P:=(Uh (S:=fun k=>k=rb) F).trans (Uz (S:=fun k=>k=rb) _ ⟨rb,0,U8⟩ (Tm (Ts ⟨g,o,U8⟩) 0 0) rfl);refine bD.some (a:=(b !=[0],O)) YA ?_ P;exact Zfy
  have Y:¬c=1:=I;go_wp2;go_ret;have P:=(Uh (S:=fun k=>k=rb) F).trans (Uz (S:=fun k=>k=rb) _ ⟨rb,0,U8⟩ (Tm (Ts ⟨g,o+3,U8⟩) n (c-1)) rfl);refine bD.some (a:=(b !=[0],O)) YA ?_ P;exact Tg
def Ak(c:List aQ)(rb w)(h:mv w rb c):VB UB 216 #[UK (Ts ⟨rb,0,U8⟩),.func (.func 217) #[] #[]] w (bD (·=rb) (bX ij c) w fun p e b=>e=UO (U1 p.1)/\mv b rb p.2):=by
 obtain⟨A,B,h⟩:=h;exact(xL c rb A B w h).mono fun e b k=>k.imp fun p q=>⟨q.1,A,B,q.2⟩
def rq(t)(b:au)(l:List aQ)(h:t≠48\/br 8 (.mk t b l)=false):bO (.mk t b l)=U8:=by
 unfold bO;exact Tv
def zi(t)(b:au)(l:List aQ)(h1:t=48)(c:br 8 (.mk t b l)=true):bO (.mk t b l)=Ts (l):=by
 unfold bO;exact Ur
def zT(Q:List aQ)(rb A B w)(h:fp w rb A B Q):VB UB 212 #[UK (Ts ⟨rb,0,U8⟩),.func (.func 211) #[] #[]] w (bD (·=rb) (bX bO Q) w fun p e Y=>∃u f,e=UO u/\aq f w/\f.heap.size<=A/\aU f/\Hd f w.heap.size p.1 u Y/\fp Y rb A B p.2):=by
 have eg:∀args w,(Wu 211 args).run UB w= .ok (.enter 211 args) w:=Vv func211 Pg rfl;cases Q with
 |nil=>
  obtain⟨a,c,d⟩:=h.none;have c0:=d.cell;go_enter func212,ntmps212;go_wp2_with fail;refine(dV _).mono ?_;rintro e w1⟨rfl,rfl⟩;unfold dK;go_wp2;exact⟨rfl,bD.none rfl (Z5 _ _)⟩
 |cons y U=>
  obtain⟨t,b,l⟩:=y;have J:=h.lt;obtain⟨f,x,g,o,n,c,r,I,H,W,z,m,K,hn,hnc,hcm,d,j⟩:=h.head;refine P5 r H j d fun L G R O=>have c0:=d.cell;have s:=Tn (wP t b l x f w r (H.ext r) W z);?_;obtain⟨C,ba,bl,bc,la,ll,lc⟩:=x;simp only at K;subst K;unfold bw at s;simp only at s;obtain⟨k0,T,V⟩:=m;simp only at k0 T V;go_enter func212,ntmps212;go_wp2_with fail;refine(fV _).mono ?_;rintro e w1⟨rfl,rfl⟩;go_wp2_with fail;refine s.out.mono ?_;rintro e w2⟨u,k,rfl,D,hR⟩;refine P4 D (aC D O) fun F q=>have d0:=q.out.cell;have f0:=q.out.frozen;?_;rcases hR with⟨h1,rfl,rfl⟩|⟨h1,N,rfl,rfl⟩|⟨h1,N,X,rfl⟩
  .have E:=Tn (rq C b l (.inl h1));exact Z6
  .have E:=Tn (rq C b l (.inr N));exact Z6
  have E:=Tn (zi C b l h1 N);have Z:=Tn X;go_wp2_with fail;refine(fV _).mono ?_;rintro e w3⟨rfl,rfl⟩;by_cases M:c=1
  .obtain rfl:n=0:=by omega
   subst M;go_wp2;go_ret;have P:=(Uh (S:=fun k=>k=rb) F).trans (Uz (S:=fun k=>k=rb) _ ⟨rb,0,U8⟩ (Tm (Ts ⟨g,o,U8⟩) 0 0) rfl);refine bD.some (a:=(l,U)) YC ?_ P;exact⟨_,f,rfl,L,I,G,DS Z J,R _ _ Pm P (ZF _ q)⟩
  have hc2:¬c=1:=M;go_wp2;go_ret;have P:=(Uh (S:=fun k=>k=rb) F).trans (Uz (S:=fun k=>k=rb) _ ⟨rb,0,U8⟩ (Tm (Ts ⟨g,o+3,U8⟩) n (c-1)) rfl);refine bD.some (a:=(l,U)) YC ?_ P;exact⟨_,f,rfl,L,I,G,DS Z J,R _ _ (.inl rfl) P (ZF _ q)⟩
def wM:∀(t:au)(n M:Int),-M<=n->n<M->-(M*256^t.length)<=t.foldl (fun n(y:UInt8)=>n*256+(y.toNat:Int)) n/\t.foldl (fun n(y:UInt8)=>n*256+(y.toNat:Int)) n<M*256^t.length
 |[],n,M,h1,c=>Pp
 |y::t,n,M,h1,c=>by
  have U:=y.toNat_lt;have b:=wM t (n*256+(y.toNat:Int)) (M*256) Ph Ph;rw[Yr,Up,show M*256^(t.length+1)=M*256*256^t.length by rw[Int.pow_succ,Int.mul_comm (256^t.length) 256,<-Int.mul_assoc]];exact b
def AC{b:au}(h:gj b=true):-9223372036854775808<=eP b/\eP b<9223372036854775808:=by
 have key:∀(x:UInt8)(t:au),t.length<=7->-9223372036854775808<=eP (x::t)/\eP (x::t)<9223372036854775808:=fun x t g=>by
  have m:=x.toNat_lt;obtain⟨n0,d⟩:∃n0:Int,(if x<128 then(x.toNat:Int)else(x.toNat:Int)-256)=n0:=⟨_,rfl⟩;have u:-128<=n0/\n0<128:=by
   rw[<-d];split
   .next h=>have f:x.toNat<128:=h;omega
   next h=>have f:¬x.toNat<128:=h;omega
  have e:eP (x::t)=t.foldl (fun n(y:UInt8)=>n*256+(y.toNat:Int)) n0:=by rw[<-d];rfl
  rw[e];have:=wM t n0 128 u.1 u.2;have j:(256:Int)^t.length<=72057594037927936:=by
   have h1:=Nat.pow_le_pow_right (n:=256) Pi g;have c:(256:Nat)^7=72057594037927936:=Pi;have e:(256:Int)^t.length=((256^t.length:Nat):Int):=Pm;rw[e];omega
  omega
 match b,h with
 |[x],_=>exact key x [] Pi
 |x::y::t,h=>
  refine key x (y::t) ?_;unfold gj at h;simp only[V7,decide_eq_true_eq]at h;rw[Up];omega
def Dz{y:aQ}{n:Int}(h:iD y=Ts n):-9223372036854775808<=n/\n<9223372036854775808:=by
 obtain⟨t,b,l⟩:=y;unfold iD at h;dsimp only at h;split at h
 .next h1=>
  cases h;refine AC ?_;have c:=h1.2;rw[br,h1.1]at c;simp only[V7]at c;exact c.2.1
 cases h
def oO{l r:List aQ}{n:Int}(h:cA l=Ts (n,r)):bX iD l=Ts (n,r)/\0<=n/\n<9223372036854775808:=by
 unfold cA at h;split at h
 .next m b h1=>
  split at h
  .cases h
  next c=>
  cases h;refine⟨h1,Ph,?_⟩;cases l with
  |nil=>cases h1
  |cons y l=>
   have A:Xb (fun v=>(v,l)) (iD y)=Ts (n,r):=h1;cases U:iD y with
   |none=>rw[U]at A;cases A
   |some v=>rw[U]at A;cases A;exact(Dz U).2
 cases h
def m9(l:List aQ)(rb A B w)(h:fp w rb A B l):VB UB 166 #[UK (Ts ⟨rb,0,U8⟩)] w (bD (·=rb) (cA l) w fun p e b=>e=UO (Ti Tl p.1)/\fp b rb A B p.2):=by
 have d:=Tn (Bg l rb A B w h);go_enter func166,ntmps166;cases m:bX iD l with
 |none=>
  have f:Hid (cA l=U8):=Tn (by unfold cA;rw[m]);rw[m]at d;go_wp2_with fail;refine P2 d fun o P=>?_;unfold dK;go_wp2;exact⟨rfl,bD.none f P⟩
 |some p=>
  obtain⟨n,r⟩:=p;have f:Hid (cA l=if n<0 then U8 else Ts (n,r)):=Tn (by unfold cA;rw[m]);rw[m]at d;go_wp2_with fail;refine d.out.mono ?_;rintro e o⟨⟨rfl,g⟩,P⟩;refine P4 g P fun Z j=>?_;by_cases L:n<0
  .have c:Hid (cA l=U8):=Tn (by rw[f.out,if_pos L]);have q:decide (0<=n)=false:=Pp;go_wp2_with fail;refine(dV _).mono ?_;rintro e s⟨rfl,rfl⟩;unfold dK;go_wp2;exact⟨rfl,bD.none c j⟩
  have c:Hid (cA l=Ts (n,r)):=Tn (by rw[f.out,if_neg L]);have q:decide (0<=n)=true:=Pp;go_wp2_with fail;refine(fV _).mono ?_;rintro e s⟨rfl,rfl⟩;go_wp2;go_ret;exact bD.some c ⟨rfl,Z⟩ j
def mf(l:List aQ)(rb A B w)(h:fp w rb A B l):VB UB 167 #[UK (Ts ⟨rb,0,U8⟩)] w (bD (·=rb) (kT l) w fun p e b=>e=UO (ag p.1)/\p.1<9223372036854775808/\fp b rb A B p.2):=by
 have c:=Tn (m9 l rb A B w h);go_enter func167,ntmps167;cases m:cA l with
 |none=>
  have d:Hid (kT l=U8):=Tn (by unfold kT;rw[m];rfl);rw[m]at c;go_wp2_with fail;refine P2 c fun g P=>?_;unfold dK;go_wp2;exact⟨rfl,bD.none d P⟩
 |some p=>
  obtain⟨n,r⟩:=p;obtain⟨_,L,h1⟩:=oO m;obtain⟨n,rfl⟩:=Int.eq_ofNat_of_zero_le L;have d:Hid (kT l=Ts (n,r)):=Tn (by unfold kT;rw[m];rfl);rw[m]at c;go_wp2_with fail;refine c.out.mono ?_;rintro e g⟨⟨rfl,f⟩,P⟩;refine P4 f P fun Z j=>?_;go_wp2;go_ret;exact bD.some d ⟨rfl,by show n<9223372036854775808;omega,Z⟩ j
def oW(l:List aQ)(rb w)(h:mv w rb l):VB UB 166 #[UK (Ts ⟨rb,0,U8⟩)] w (bD (·=rb) (cA l) w fun p e b=>e=UO (Ti Tl p.1)/\mv b rb p.2):=by
 obtain⟨A,B,h⟩:=h;exact(m9 l rb A B w h).mono fun e b k=>k.imp fun p q=>⟨q.1,A,B,q.2⟩
def Of(l:List aQ)(rb w)(h:mv w rb l):VB UB 167 #[UK (Ts ⟨rb,0,U8⟩)] w (bD (·=rb) (kT l) w fun p e b=>e=UO (ag p.1)/\p.1<9223372036854775808/\mv b rb p.2):=by
 obtain⟨A,B,h⟩:=h;exact(mf l rb A B w h).mono fun e b k=>k.imp fun p q=>⟨q.1,q.2.1,A,B,q.2.2⟩
def rp(l:List aQ)(rb A B w)(h:fp w rb A B l):VB UB 164 #[UK (Ts ⟨rb,0,U8⟩)] w (bD (·=rb) (bX bO l) w fun p e N=>∃d,e=UO (UK (Ts ⟨d,0,U8⟩))/\w.heap.size<=d/\(∃K,K<=A/\fp N d K w.heap.size p.1)/\fp N rb A B p.2):=by
 refine P4 (zT l rb A B w h) h fun s H=>?_;go_enter func164,ntmps164;cases r:bX bO l with
 |none=>
  rw[r]at s;go_wp2_with fail;refine P2 s fun I P=>?_;unfold dK;go_wp2;exact⟨rfl,bD.none rfl P⟩
 |some p=>
  have L:=Tn r;rw[r]at s;go_wp2_with fail;refine s.out.mono ?_;rintro e I⟨⟨u,f,rfl,o,F,g,X,J⟩,P⟩;obtain⟨la,m,k,rfl⟩:∃la m k,u=Tm la m k:=Rk;refine P9 o g H.out.oa X J P fun G D E O Z C=>?_;go_wp2;go_ret;have q:aq f I:=((Uh (S:=fun _=>False) G).onto C (fun i hi e=>by have R:i=rb:=e;have:=E.out;omega)).ext (fun _ _ h=>h);have j:b8 p.1/\p.1.length<=1000000:=by
   cases l with
   |nil=>cases L.out
   |cons y l=>
    have x:Xb (fun v=>(v,l)) (bO y)=Ts p:=L.out;cases U:bO y with
    |none=>rw[U]at x;cases x
    |some v=>
     rw[U]at x;cases x;have z:=H.out.small;rw[b8]at z;obtain⟨t,b,k⟩:=y;unfold bO at U;dsimp only at U;split at U
     .cases U;have c:=z.1;rw[bi]at c;exact⟨c.2.2,c.2.1⟩
     cases U
  exact bD.some rfl ⟨_,rfl,C.size,⟨_,F,fp.new q D O C.size j.1 j.2⟩,Z.ext (af P0 _)⟩ (C.trans (ZD _ _ _))
def acH(l:List aQ)(rb w)(h:mv w rb l):VB UB 164 #[UK (Ts ⟨rb,0,U8⟩)] w (bD (·=rb) (bX bO l) w fun p e b=>∃c,e=UO (UK (Ts ⟨c,0,U8⟩))/\w.heap.size<=c/\mv b c p.1/\mv b rb p.2):=by
 obtain⟨A,B,h⟩:=h;exact(rp l rb A B w h).mono fun e b k=>k.imp fun p q=>by
  obtain⟨r,q1,q2,⟨g,_,d⟩,f⟩:=q;exact⟨r,q1,q2,⟨_,_,d⟩,⟨_,_,f⟩⟩
def zX(l:List aQ)(rb w)(h:mv w rb l):VB UB 168 #[UK (Ts ⟨rb,0,U8⟩)] w (fun e p=>p=w/\e=if l.isEmpty then UO (UW #[])else dK):=by
 cases l with
 |nil=>
  obtain⟨a,c,d⟩:=h.none;have c0:=d.cell;go_enter func168,ntmps168;go_wp2_with fail;refine(fV _).mono ?_;rintro e j⟨rfl,rfl⟩;exact Ux
 |cons y l=>
  obtain⟨t,b,k⟩:=y;obtain⟨A,B,h⟩:=h;obtain⟨f,x,g,o,n,c,_,_,_,_,_,_,_,hn,q,m,d,_⟩:=h.head;have c0:=d.cell;have r:decide ((n:Int)+1=0)=false:=Pp;go_enter func168,ntmps168;go_wp2_with fail;refine(dV _).mono ?_;rintro e j⟨rfl,rfl⟩;unfold dK;exact Zb9
def gP(T:Nat->Prop)(w:UN)(P:UN->Prop):Prop:=∀b:UN,(∀k,T k->b.heap[k]?=w.heap[k]?)->P b
def gP.move{T d:Nat->Prop}{P:UN->Prop}(h:gP T w P)(j:∀k,T k->b.heap[k]?=w.heap[k]?)(f:∀k,T k->d k):gP d b P:=
 fun g c=>h g fun k o=>(c k (f k o)).trans (j k o)
def gP.fr{b e d f g}{P:UN->Prop}(h:gP (ta b e) w P)(m:Fr S w g)(j:e<=w.heap.size)(l:∀k,S k->¬ta b e k)(hb:d<=b)(c:e<=f):gP (ta d f) g P:=
 h.move (fun k o=>m.block k (Wp o.2 j) (fun z=>l k z o)) (fun _ o=>⟨VG hb o.1,Wp o.2 c⟩)
def kN(l:List au):List UV:=l.map fun s=>UH (aL s)
def yd(l:List au)(s:au):kN (l++[s])=kN l++[UH (aL s)]:=by unfold kN;rw[WK];rfl
def Km(s:au):(aL s).size=s.length:=rfl
def xP(l:List au):(l.map aL).flatMap (fun x=>[UH x])=kN l:=by
 unfold kN;induction l with
 |nil=>rfl
 |cons s l b=>rw[WI,Vh,WI,b];rfl
def KW{base}{l:List au}(hn:l.length=n)(z:∀s∈l,s.length<=1000000)(h:w.ownsRow base 9 1 v n (kN l)):∃a c,v=Tm a n c/\n<=c/\c<=VL/\gP (ta base w.heap.size) w fun g=>js g a (l.map aL):=by
 have f:=xP l;have:=kZ (cells:=fun x=>[UH x]) (R:=OA) (l:=l.map aL) (fun x=>rfl) (fun b o x m J=>⟨J 0 _ rfl,by obtain⟨s,d,rfl⟩:=Wl.1 m;rw[Km];have:=z s d;unfold VL;omega⟩) (n:=n) (w:=w) (base:=base) (e:=9) (v:=v) (by rw[VR];exact hn) (by rw[f];exact h);obtain⟨a,c,h1,p,A,u⟩:=this;rw[VR,hn]at h1 p;refine⟨a,c,h1,p,A,fun g t=>fun j x m=>?_⟩;obtain⟨b,off,rfl,r,q⟩:=u j x m;have hb:=h.lt b Zby;exact⟨b,off,rfl,(Wj (t b hb)).trans r,q⟩
def boxN(w:UN)(b:Nat):Nat:=match w.cell? ⟨b,0,U8⟩with
 |some (Tm _ n _)=>n
 |_=>0
def adV{b c}(h:VX w b T (Tm a n c)):boxN w b=n:=by
 unfold boxN;rw[h.cell]
def mv.boxN{l:List aQ}(h:mv w rb l):boxN w rb=l.length:=by
 obtain⟨A,B,h⟩:=h;obtain⟨f,a,n,c,j,h1,g,d,b,hn,_⟩:=h.ex;rw[adV d,<-hn,<-b,VR]
def nr{y:aQ}{s:au}(h:cZ y=Ts s)(z:bi y):s.length<=1000000:=by
 obtain⟨t,b,l⟩:=y;unfold cZ at h;dsimp only at h;rw[bi]at z;split at h
 .cases h;exact z.1
 cases h
def af8(rb:Nat)(w:UN)(p:List au×List aQ)(e:Xo)(b:UN):Prop:=∃a c,e=UO (Tm a p.1.length c)/\p.1.length<=c/\c<=VL/\p.1.length<=1000000/\gP (ta w.heap.size b.heap.size) b (fun d=>js d a (p.1.map aL))/\mv b rb p.2
def zA(l:List aQ)(rb w)(h:mv w rb l):VB UB 215 #[UK (Ts ⟨rb,0,U8⟩)] w (bD (·=rb) (iq l) w (af8 rb w)):=by
 obtain⟨i0,hi,hz0,hz1,hz2⟩:=WN infoStr;have hrlt:=h.lt;have U:=Tn (acH l rb w h);go_enter func215,ntmps215;cases m:bX bO l with
 |none=>
  have HX:Hid (iq l=U8):=Tn (by unfold iq;rw[m];rfl);rw[m]at U;go_wp2_with fail;refine P2 U fun M P=>?_;unfold dK;go_wp2;exact⟨rfl,bD.none HX P⟩
 |some p=>
  obtain⟨its,r⟩:=p;have HX:Hid (iq l=(cV its).map (·,r)):=Tn (by unfold iq;rw[m];rfl);rw[m]at U;go_wp2_with fail;refine U.out.mono ?_;rintro e Q⟨⟨O,rfl,hr2,d,G⟩,P⟩;refine P3 d G P fun f Z HF=>have hr2l:=d.lt;?_;go_wp2;go_loopw [3] (fun v wr=>∃(acc:List au)(rest:List aQ),wr.ownsRow Q.heap.size 9 1 v acc.length (kN acc)/\mv wr O rest/\mv wr rb r/\cV its=(cV rest).map (acc++·)/\Fr (·=rb) w wr/\Q.heap.size<=wr.heap.size/\acc.length+rest.length<=1000000/\∀s∈acc,s.length<=1000000) (fun _ wr=>boxN wr O)
  case atStart=>exact⟨[],its,WO _ _ _ _,f,Z,by cases cV its<;>rfl,HF,UY _,by have:=f.out.short;simpa using this,fun s z=>Zb0⟩
  obtain⟨acc,rest,I,d,G,T,P,ab,B,X⟩:=hrel;refine P9 I d G T P X fun HO f Z N HF Y=>P1 acc.length fun A hA=>have R:=Tn hA;?_;rw[hA]at HO B;cases rest with
  |nil=>
   obtain⟨a,c,D⟩:=f.out.none;have c0:=D.cell;go_wp2;go_ret;have HT:cV its=Ts acc:=by rw[N.out];simp[cV]
   obtain⟨a',c',rfl,h1,h2,h3⟩:=KW R Y HO;refine bD.some (a:=(acc,r)) (by rw[HX.out,HT];rfl) ⟨a',c',by rw[R.out];rfl,by rw[R.out];exact h1,h2,by rw[R.out];simpa using B,?_,Z⟩ HF;exact h3.fr (Z5 (fun _=>False) _) (UY _) (fun _ o=>o.elim) Ph (UY _)
  |cons y rest=>
   rw[Up]at B;obtain⟨t,b,k⟩:=y;obtain⟨_,_,L⟩:=f.out;obtain⟨_,_,_,_,n,c,_,_,_,_,J,_,_,hn,hnc,hcm,D,_⟩:=L.head;have HSY:=Tn J;have c0:=D.cell;have H:=Tn (mY (.mk t b k::rest) O wr f);cases j:cZ (.mk t b k)with
   |none=>
    have HXN:Hid (iq l=U8):=Tn (by rw[HX.out,N.out,cV,j];rfl);rw[show bX cZ (.mk t b k::rest)=U8 from YP]at H;go_wp2_with fail;refine P2 H fun M u=>?_;unfold dK;go_wp2;exact⟨rfl,bD.none HXN (HF.onto u (fun i hi e=>by have e':i=O:=e;omega))⟩
   |some s=>
    have hss:=nr j HSY
    have HTN:Hid (cV its=(cV rest).map (fun x=>(acc++[s])++x)):=Tn (by
     rw[N.out,cV,j]
     cases cV rest<;>simp)
    rw[show bX cZ (.mk t b k::rest)=Ts (s,rest)from YP]at H;have hr2w:Q.heap.size<=wr.heap.size:=ab;go_upto_region 4 with fail;go_wp2_with fail;refine H.out.mono ?_;rintro e M⟨⟨rfl,F⟩,u⟩;refine P3 F u (eM HO u (fun g S e=>by have:=bE HO g S;have e':g=O:=e;omega)) fun K W ac=>have V:Q.heap.size<=M.heap.size:=VG ab u.size;?_
    go_wp2_with (
           at_builtin
           refine aX rfl _ _ 73 rfl Q.heap.size 9 i0 (UH ⟨#[]⟩) 1 16 underlying73 hi hz0 hz1 hz2 rfl Pi _ _ _ rfl (ac.alloc _) (Ts ⟨M.heap.size,0,U8⟩) 1 1 [UH (aL s)] rfl rfl (by intro ad had;cases had;exact cQ M [UH (aL s)] _) (fun e=>RH) Pu Pr Ph Q9 ?_
           intro v2 w2 E q
           refine P4 E q fun HO2 HG2=>?_
           clear E q)
    have S:∀g,Vt _=Ts g->Q.heap.size<=g:=bE ac;have ah:Fr (fun b=>Q.heap.size<=b) M w2:=(ZD _ M _).trans ((ZG HG2).mono fun _ _ e=>S _ e);have C:=Tn ah;go_roundw
    case rel=>
     refine⟨acc++[s],rest,?_,K.fr C (fun k o=>Ph),(Z.fr W (fun k o=>by have e':k=O:=o;omega)).fr C (fun k o=>Ph),HTN,((HF.onto W (fun i hi e=>by have e':i=O:=e;omega)).onto C (fun i hi e=>Ph)),VG V C.size,?_,?_⟩
     .rw[yd,Uo,WJ,R.out];exact HO2.out
     .rw[Uo,WJ,R.out];omega
     intro x m;rcases WD.1 m with m|m
     .exact Y.out x m
     rw[VP]at m;rw[m];exact hss
    rw[(K.fr C (fun k o=>Ph)).boxN,f.out.boxN];simp
def Nd:pD gW:=fun w b o p=>w.cell? ⟨b,o,U8⟩=Ts (Ti Tl p.log)/\w.cell? ⟨b,o+1,U8⟩=Ts (Ti Tl p.at_)/\w.cell? ⟨b,o+2,U8⟩=Ts (ag p.leaf.1)/\w.cell? ⟨b,o+3,U8⟩=Ts (ag p.leaf.2)/\
 w.cell? ⟨b,o+4,U8⟩=Ts (ag p.sig.e)/\w.cell? ⟨b,o+5,U8⟩=Ts (ag p.sig.s)
instance:mj Nd:=⟨fun h hE=>⟨ae h.1 hE,ae h.2.1 hE,ae h.2.2.1 hE,ae h.2.2.2.1 hE,ae h.2.2.2.2.1 hE,ae h.2.2.2.2.2 hE⟩⟩
abbrev Kl(w:UN)(a:Option VW)(l:List gW):Prop:=cr 6 Nd w a l
def qh(p:gW):UV:=UT #[Ti Tl p.log,Ti Tl p.at_,ag p.leaf.1,ag p.leaf.2,ag p.sig.e,ag p.sig.s]
def kO(p:gW):List UV:=[Ti Tl p.log,Ti Tl p.at_,ag p.leaf.1,ag p.leaf.2,ag p.sig.e,ag p.sig.s]
structure OU(p:gW):Prop where
 a:p.leaf.1<2^64
 b:p.leaf.2<2^64
 e:p.sig.e<2^64
 s:p.sig.s<2^64
structure nj where
 na:Option VW
 nc:Nat
 pa:Option VW
 pc:Nat
 ra:Option VW
 rc:Nat
def fx(c:ff)(x:nj):UV:=UT #[Ti Tl c.serial,UH (aL c.issuer),UH (aL c.subject),ag c.key,Tm x.na c.names.length x.nc,Ti Tl c.from_,Ti Tl c.until_,U1 c.ca,Ti Tl c.depth,Tm x.pa c.permit.length x.pc,Tm x.ra c.proms.length x.rc,ag c.sig.e,ag c.sig.s]
def wV(c:ff)(x:nj):List UV:=[Ti Tl c.serial,UH (aL c.issuer),UH (aL c.subject),ag c.key,Tm x.na c.names.length x.nc,Ti Tl c.from_,Ti Tl c.until_,U1 c.ca,Ti Tl c.depth,Tm x.pa c.permit.length x.pc,Tm x.ra c.proms.length x.rc,ag c.sig.e,ag c.sig.s]
def pE(c:ff)(x:nj)(i:Nat):UV:=(wV c x).getD i VM
structure lF(w:UN)(c:ff)(x:nj):Prop where
 names:js w x.na (c.names.map aL)
 nl:c.names.length<=x.nc
 nm:x.nc<=VL
 permit:js w x.pa (c.permit.map aL)
 pl:c.permit.length<=x.pc
 pm:x.pc<=VL
 proms:Kl w x.ra c.proms
 rl:c.proms.length<=x.rc
 rm:x.rc<=VL
def lF.ext{c x}(h:lF w c x)(g:aq w b):lF b c x:=
 ⟨h.names.ext g,h.nl,h.nm,h.permit.ext g,h.pl,h.pm,h.proms.ext g,h.rl,h.rm⟩
structure kQ(c:ff):Prop where
 key:c.key<2^64
 e:c.sig.e<2^64
 s:c.sig.s<2^64
 prm:∀p∈c.proms,OU p
 iss:c.issuer.length<=1000000
 sub:c.subject.length<=1000000
 nms:∀s∈c.names,s.length<=1000000
 prt:∀s∈c.permit,s.length<=1000000
 nl:c.names.length<=1000000
 pl:c.permit.length<=1000000
 rl:c.proms.length<=1000000
def aS.fr{b}(h:aS w b t f n)(P:Fr S w c)(l:¬S b):aS c b t f n:=
 (P.block b (UE.1 h).1 l).trans h
def aS.put{b}(h:aS w b t f n)(i v):aS (w.setCell ⟨b,i,U8⟩ v) b t (sC f i v) n:=by
 unfold aS;rw[<-Do];exact VE w b i _ _ _ h
def aS.as{b}{g:Nat->UV}(h:aS w b t f n)(e:∀i,i<n->f i=g i):aS w b t g n:=by
 have:fK f n=fK g n:=by
  apply Yc;intro j;by_cases Q:j<n
  .rw[gm _ Q,gm _ Q,e j Q]
  exact Zcu
 unfold aS at*;rw[h,this]
def Di(n)(w:UN):VB UB 242 #[Ti Tl n] w fun e b=>e=UO (U1 (dZ n))/\b=w:=by
 go_enter func242,ntmps242;go_upto_region 1 with fail;refine aG (fun b=>w=b) rfl ?_;exact TT
def lh{a b}(h:a=b):UO (U1 a)=UO (U1 b):=by rw[h]
def agC(g:Sg):UV:=UT #[ag g.e,ag g.s]
def tG(g)(w:UN):VB UB 244 #[agC g] w (bM (U1 (ik g)) w):=by
 obtain⟨e,s⟩:=g;unfold agC ik;dsimp only;go_enter func244,ntmps244;go_wp2;go_ret;refine⟨lh ?_,af P0 _⟩;congr 1;apply propext;show(max (e:Int) (s:Int)<1152921504606845789)↔max e s<1152921504606845789
 omega
def qe(r:Nat):Bool:=decide (r<=32)||decide (126<r)
def afH(w):PredAt UB 283 #[] encR qe w:=by
 intro W x hb;unfold FnGives qe;simp only[encR,Array.append_empty];refine(show VB UB 283 #[Ti .i32 (x:Int)] W (fun e b=>e=UO (U1 (decide ((x:Int)<=32)||decide ((126:Int)<(x:Int))))/\b=W)from ?_).mono ?_
 .go_enter func283,ntmps283;go_upto_region 1 with fail;refine aG (fun b=>W=b) rfl ?_;exact TT
 rintro e b⟨rfl,rfl⟩;refine⟨lh ?_,0,rfl⟩;rw[show decide ((x:Int)<=32)=decide (x<=32)from QC,show decide ((126:Int)<(x:Int))=decide (126<x)from QC]
def IU(s:ByteArray):∀(f b:Nat),s.size<=b+f->decide (0<=Lib.idxFuncFrom qe true s f b)=(s.data.toList.drop b).any fun c=>qe c.toNat
 |0,b,h=>by
  rw[Lib.idxFuncFrom_end _ _ _ _ _ Ph,Xj QJ];rfl
 |f+1,b,h=>by
  by_cases R:b<s.size
  .have y:s.data.toList.drop b=(s[b]'R)::s.data.toList.drop (b+1):=by
    rw[WT (by simpa using R)];rfl
   rw[y,List.any_cons];unfold Lib.idxFuncFrom;rw[if_pos R];by_cases g:(s[b]'R).toNat<128
   .rw[decode_ascii s b R g];cases hb:qe (s[b]'R).toNat with
    |true=>rw[if_pos rfl];simp
    |false=>rw[if_neg Pi,Bool.false_or];exact IU s f (b+1) Ph
   have h1:=(decode_high s b R Ph).1;have d:qe (Utf8.decode s b).1=true:=by unfold qe;simp;omega
   have A:qe (s[b]'R).toNat=true:=by unfold qe;simp;omega
   rw[d,if_pos rfl,A];simp
  rw[Lib.idxFuncFrom_end _ _ _ _ _ R,Xj Pp];rfl
def Nf(s:au):oz s=((!s.isEmpty&&decide ((s.length:Int)<=64))&& !(s.any fun c=>qe c.toNat)):=by
 unfold oz;have e:(s.all fun c=>decide (33<=c)&&decide (c<=126))= !(s.any fun c=>qe c.toNat):=by
  rw[List.any_eq_not_all_not,Bool.not_not];congr 1;funext c;unfold qe;have h1:decide ((33:UInt8)<=c)= !decide (c.toNat<=32):=by
   exact UQ
  have b:decide (c<=(126:UInt8))= !decide (126<c.toNat):=by
   rw[<-decide_not];congr 1;rw[UInt8.le_iff_toNat_le];simp
  rw[h1,b,Bool.not_or]
 rw[e,YS,show decide ((s.length:Int)<=64)=decide (s.length<=64)from QC]
def EO(s:au)(w:UN):VB UB 284 #[UH (aL s),.func (.func 283) #[] #[]] w (bM (U1 (s.any fun c=>qe c.toNat)) w):=by
 refine P2 (strings_ContainsFunc 283 #[] (Vv func283 Pg rfl) qe (aL s) w (afH w)) fun b g=>⟨lh ?_,g⟩;have:=IU (aL s) (aL s).size 0 Ph;rw[List.drop_zero]at this;exact this
def yz(s:au)(w:UN)(z:s.length<=9223372036854775807):VB UB 243 #[UH (aL s)] w (bM (U1 (oz s)) w):=by
 refine P4 (EO s) (Nf s) fun p q=>?_;obtain⟨A,r⟩:∃A,(s.any fun c=>qe c.toNat)=A:=⟨_,rfl⟩;rw[r]at p q;have d:(aL s).size=s.length:=rfl;have f:(aL s).toList=s:=by rw[Yb];rfl
 refine P1 (aL s) fun S j=>?_;rw[j]at p d f⊢;have u:S.size<=9223372036854775807:=by rw[d];exact z
 refine P4 d f fun m o=>?_;clear r j d f;go_enter func243,ntmps243;go_upto_region 2 with fail;refine aG (fun b=>aq w b) P0 ?_;repeat
  (first|refine az rfl rfl rfl rfl ?_|refine aF rfl rfl rfl rfl ?_|refine aw rfl ?_|refine aj rfl rfl rfl rfl rfl ?_|((first|refine av (v:=?_) rfl rfl (fun hb b l=>?_) ?_|refine ar (v:=?_) rfl rfl rfl (fun y hb b l=>?_) ?_|refine ax (v:=?_) rfl (fun b l=>?_) ?_);rotate_left;(focus(have f0:=l;unfold ak;go_simp;first|exact aD l|(refine(p _).mono ?_;rintro e t⟨rfl,x⟩;exact aH (aa l x))))))
  simp only[Ua,P7]
 refine aA fun b g=>?_;go_wp2;go_ret;refine⟨lh ?_,g⟩;rw[q.out,o.out,m.out]
structure FG(w W:UN)(rb D:Nat)(l:List aQ)(f:Nat->UV):Prop where
 rd:mv W rb l
 row:aS W D 97 f 13
 fr:Fr (·=rb) w W
 lt:rb<w.heap.size
 base:w.heap.size=D
def FG.call{l c:List aQ}(h:FG w W rb D l f)(P:Fr (·=rb) W b)(d:mv b rb c):FG w b rb D c f:=
 ⟨d,h.row.fr P (fun e=>by have g:D=rb:=e;have:=h.lt;have:=h.base;omega),h.fr.trans P,h.lt,h.base⟩
def FG.put{l:List aQ}(h:FG w W rb D l f)(i v):FG w (W.setCell ⟨D,i,U8⟩ v) rb D l (sC f i v):=by
 have P:Fr (fun k=>k=D) W (W.setCell ⟨D,i,U8⟩ v):=Uz _ _ _ rfl;have p:=h.lt;have hb:=h.base;exact⟨h.rd.fr P (fun k o=>by have b:k=D:=o;omega),h.row.put i v,h.fr.onto P (fun i hi e=>by have b:i=D:=e;omega),h.lt,h.base⟩
def aV{b e}{P:UN->Prop}(h:gP (ta b e) W P)(C:D<b):gP (ta b e) (W.setCell ⟨D,i,U8⟩ v) P:=
 h.move (fun k o=>Below.heap_setCell _ _ _ _ (fun c=>by have d:k=D:=c;have:=o.1;omega)) (fun _ h=>h)
def km{b e}{P:UN->Prop}(h:gP (ta b e) W P)(g:Fr (·=rb) W c)(hb:rb<b)(f:e<=W.heap.size):gP (ta b e) c P:=
 h.fr g f (fun k o d=>by have j:k=rb:=o;have:=d.1;omega) (UY _) (UY _)
def qH{α:Type}{g:aQ->Option α}{l r:List aQ}{v:α}(h:bX g l=Ts (v,r)):∃y,l=y::r/\g y=Ts v:=by
 cases l with
 |nil=>cases h
 |cons y l=>
  have A:Xb (fun v=>(v,l)) (g y)=Ts (v,r):=h;cases U:g y with
  |none=>rw[U]at A;cases A
  |some u=>rw[U]at A;cases A;exact⟨y,rfl,U⟩
def tM{α:Type}{g:aQ->Option α}{l r:List aQ}{v:α}(h:bX g l=Ts (v,r))(z:b8 l):b8 r:=by
 obtain⟨y,rfl,_⟩:=qH h;rw[b8]at z;exact z.2
def oS{l r:List aQ}{s:au}(h:bX cZ l=Ts (s,r))(z:b8 l):s.length<=1000000/\b8 r:=by
 obtain⟨y,rfl,U⟩:=qH h;rw[b8]at z;exact⟨nr U z.1,z.2⟩
def iu{l r:List aQ}{n:Int}(h:cA l=Ts (n,r))(z:b8 l):b8 r:=tM (oO h).1 z
def Gi{l r:List aQ}(h:kT l=Ts (n,r))(z:b8 l):b8 r:=by
 unfold kT at h;cases J:cA l with
 |none=>rw[J]at h;cases h
 |some p=>rw[J]at h;obtain⟨m,b⟩:=p;cases h;exact iu J z
def pW:∀{l:List aQ}{b:List au},cV l=Ts b->b8 l->(∀s∈b,s.length<=1000000)/\b.length=l.length
 |[],b,h,_=>by
  rw[cV]at h;cases h;exact⟨fun s z=>Zb0,rfl⟩
 |y::l,b,h,z=>by
  rw[cV]at h;rw[b8]at z;cases U:cZ y with
  |none=>rw[U]at h;cases h
  |some s=>
   rw[U]at h;cases d:cV l with
   |none=>rw[d]at h;cases h
   |some t=>
    rw[d]at h;cases h;obtain⟨h1,c⟩:=pW d z.2;refine⟨fun x m=>?_,by rw[Up,Up,c]⟩;cases m with
    |head=>exact nr U z.1
    |tail _ m=>exact h1 x m
def ro{l r:List aQ}{d:List au}(h:iq l=Ts (d,r))(z:b8 l):(∀s∈d,s.length<=1000000)/\d.length<=1000000/\b8 r:=by
 unfold iq at h;cases hn:bX bO l with
 |none=>rw[hn]at h;cases h
 |some p=>
  obtain⟨its,g⟩:=p;rw[hn]at h;obtain⟨y,rfl,U⟩:=qH hn;rw[b8]at z;have c:(cV its).map (·,g)=Ts (d,r):=h;cases f:cV its with
  |none=>rw[f]at c;cases c
  |some t=>
   rw[f]at c;cases c;obtain⟨m,b,k⟩:=y;unfold bO at U;dsimp only at U;split at U
   .cases U;have o:=z.1;rw[bi]at o;obtain⟨A,j⟩:=pW f o.2.2;exact⟨A,by rw[j];exact o.2.1,z.2⟩
   cases U
def oL:Nat->UV:=fun i=>#[Ti Tl 0,UH ⟨#[]⟩,UH ⟨#[]⟩,Ti Tt 0,zz,Ti Tl 0,Ti Tl 0,U1 false,Ti Tl 0,zz,zz,Ti Tt 0,Ti Tt 0].getD i VM
def aiX(w:UN)(c:ff)(e:Xo)(b:UN):Prop:=∃x,e=UO (fx c x)/\x.ra=U8/\x.rc=0/\c.proms=[]/\gP (ta w.heap.size b.heap.size) b (fun d=>lF d c x)/\kQ c
def aaG(R:List aQ)(rb w)(h:mv w rb R):VB UB 165 #[UK (Ts ⟨rb,0,U8⟩)] w (bD (·=rb) (fl R) w (aiX w)):=by
 refine P1 w.heap.size fun D C=>P1 (w.alloc (Tq #[Ti Tl 0,UH ⟨#[]⟩,UH ⟨#[]⟩,Ti Tt 0,zz,Ti Tl 0,Ti Tl 0,U1 false,Ti Tl 0,zz,zz,Ti Tt 0,Ti Tt 0] 97)) fun f d=>have HS0:Hid (FG w f rb D R oL):=Tn ⟨by rw[<-d];exact h.ext (af P0 _),by rw[<-d,<-C];exact(UZ _ _).trans (congrArg (fun r=>Ts (Tq r 97 (0,0))) (mH #[Ti Tl 0,UH ⟨#[]⟩,UH ⟨#[]⟩,Ti Tt 0,zz,Ti Tl 0,Ti Tl 0,U1 false,Ti Tl 0,zz,zz,Ti Tt 0,Ti Tt 0] VM).symm),by rw[<-d];exact ZD _ _ _,h.lt,C⟩;have hrl:=h.lt;have HSM:=Tn h.small;?_;have szW0:f.heap.size=w.heap.size+1:=by rw[<-d,Ud]
 clear h;go_enter func165,ntmps165;go_upto_region 1 with fail;try rw[d]
 clear d;have HC1:=Tn (oW R rb f HS0.rd);cases an:cA R with
 |none=>
  have E:Hid (fl R=U8):=Tn (by simp[fl,an]);rw[an]at HC1;clear an;go_wp2_with fail;refine P2 HC1 fun w1 P=>?_;unfold dK;go_wp2;exact⟨rfl,bD.none E (HS0.fr.trans P)⟩
 |some p=>
  obtain⟨serial,l1⟩:=p;have z:=Tn an;rw[an]at HC1;clear an;go_wp2_with fail;refine HC1.out.mono ?_;rintro e t⟨⟨rfl,hR1⟩,hF1⟩;have HSW1:=Tn (HS0.call hF1 hR1);have szW1:f.heap.size<=t.heap.size:=hF1.size;clear hR1 hF1;have HC2:=Tn (mY l1 rb t HSW1.rd);cases al:bX cZ l1 with
  |none=>
   have E:Hid (fl R=U8):=Tn (by simp[fl,z.out,al]);rw[al]at HC2;clear al;go_wp2_with fail;refine P2 HC2 fun w1 P=>?_;unfold dK;go_wp2;exact⟨rfl,bD.none E (HSW1.fr.trans P)⟩
  |some p=>
   obtain⟨issuer,l2⟩:=p;have B:=Tn al;rw[al]at HC2;clear al;go_wp2_with fail;refine HC2.out.mono ?_;rintro e I⟨⟨rfl,hR2⟩,hF2⟩;have HSW2:=Tn (HSW1.call hF2 hR2);have szW2:t.heap.size<=I.heap.size:=hF2.size;clear hR2 hF2;have HC3:=Tn (mY l2 rb I HSW2.rd);cases hx3:bX cZ l2 with
   |none=>
    have E:Hid (fl R=U8):=Tn (by simp[fl,z.out,B.out,hx3]);rw[hx3]at HC3;clear hx3;go_wp2_with fail;refine P2 HC3 fun w1 P=>?_;unfold dK;go_wp2;exact⟨rfl,bD.none E (HSW2.fr.trans P)⟩
   |some p=>
    obtain⟨subject,l3⟩:=p;have F:=Tn hx3;rw[hx3]at HC3;clear hx3;go_wp2_with fail;refine HC3.out.mono ?_;rintro e O⟨⟨rfl,hR3⟩,hF3⟩;have HSW3:=Tn (HSW2.call hF3 hR3);have szW3:I.heap.size<=O.heap.size:=hF3.size;clear hR3 hF3;have HC4:=Tn (Of l3 rb O HSW3.rd);cases hx4:kT l3 with
    |none=>
     have E:Hid (fl R=U8):=Tn (by simp[fl,z.out,B.out,F.out,hx4]);rw[hx4]at HC4;clear hx4;go_wp2_with fail;refine P2 HC4 fun w1 P=>?_;unfold dK;go_wp2;exact⟨rfl,bD.none E (HSW3.fr.trans P)⟩
    |some p=>
     obtain⟨key,l4⟩:=p;have K:=Tn hx4;rw[hx4]at HC4;clear hx4;go_wp2_with fail;refine HC4.out.mono ?_;rintro e W4⟨⟨rfl,hkey,hR4⟩,hF4⟩;have u:=Tn (HSW3.call hF4 hR4);have szW4:O.heap.size<=W4.heap.size:=hF4.size;clear hR4 hF4;have e0:W4.cell? ⟨D,0,U8⟩=Ts (Ti Tl 0):=u.out.row.cell (i:=0) Pi;have g0:=u.out.row.free 0;have am:W4.cell? ⟨D,1,U8⟩=Ts (UH ⟨#[]⟩):=u.out.row.cell (i:=1) Pi;have g1:=u.out.row.free 1;have e2:W4.cell? ⟨D,2,U8⟩=Ts (UH ⟨#[]⟩):=u.out.row.cell (i:=2) Pi;have g2:=u.out.row.free 2;have e3:W4.cell? ⟨D,3,U8⟩=Ts (Ti Tt 0):=u.out.row.cell (i:=3) Pi;have g3:=u.out.row.free 3;go_upto_region 2 with fail;refine PQ W4 D (Ti Tl serial) (UH (aL issuer)) (UH (aL subject)) (ag key) fun W5 hW5=>have ad:=Tn ((((u.put 0 (Ti Tl serial)).put 1 (UH (aL issuer))).put 2 (UH (aL subject))).put 3 (ag key));?_;rw[hW5]at ad;rw[hW5];have szW5:W5.heap.size=W4.heap.size:=by rw[<-hW5];simp[XY]
     clear hW5 e0 g0 am g1 e2 g2 e3 g3;have HC5:=Tn (zA l4 rb W5 ad.rd);cases hx5:iq l4 with
     |none=>
      have E:Hid (fl R=U8):=Tn (by simp[fl,z.out,B.out,F.out,K.out,hx5]);rw[hx5]at HC5;clear hx5;go_wp2_with fail;refine P2 HC5 fun w1 P=>?_;unfold dK;go_wp2;exact⟨rfl,bD.none E (ad.fr.trans P)⟩
     |some p=>
      obtain⟨names,l5⟩:=p;have M:=Tn hx5;rw[hx5]at HC5;clear hx5;go_wp2_with fail;refine HC5.out.mono ?_;rintro e W6⟨⟨na,nc,rfl,hnl5,hnm5,hns5,hst5,hR5⟩,hF5⟩;refine P4 hst5 (ad.call hF5 hR5) fun HST5 HSW6=>have szW6:W5.heap.size<=W6.heap.size:=hF5.size;?_;clear hR5 hF5 hst5;have e4:W6.cell? ⟨D,4,U8⟩=Ts (zz):=HSW6.out.row.cell (i:=4) Pi;have g4:=HSW6.out.row.free 4;go_upto_region 3 with fail;refine P1 (W6.setCell ⟨D,4,U8⟩ (Tm na names.length nc)) fun W7 hW7=>have ac:=Tn (HSW6.put 4 (Tm na names.length nc));?_;rw[hW7]at ac;have Y:=Tn (aV (D:=D) (i:=4) (v:=Tm na names.length nc) HST5 Ph);rw[hW7]at Y;rw[hW7];have szW7:W7.heap.size=W6.heap.size:=by rw[<-hW7];simp[XY]
      clear hW7 e4 g4;have HC6:=Tn (oW l5 rb W7 ac.rd);cases hx6:cA l5 with
      |none=>
       have E:Hid (fl R=U8):=Tn (by simp[fl,z.out,B.out,F.out,K.out,M.out,hx6]);rw[hx6]at HC6;clear hx6;go_wp2_with fail;refine P2 HC6 fun w1 P=>?_;unfold dK;go_wp2;exact⟨rfl,bD.none E (ac.fr.trans P)⟩
      |some p=>
       obtain⟨from_,l6⟩:=p;have X:=Tn hx6;rw[hx6]at HC6;clear hx6;go_wp2_with fail;refine HC6.out.mono ?_;rintro e W8⟨⟨rfl,hR6⟩,hF6⟩;have HSW8:=Tn (ac.call hF6 hR6);have szW8:W7.heap.size<=W8.heap.size:=hF6.size;have HST5W7W8:=Tn (km Y hF6 Ph Ph);clear hR6 hF6;have HC7:=Tn (oW l6 rb W8 HSW8.rd);cases hx7:cA l6 with
       |none=>
        have E:Hid (fl R=U8):=Tn (by simp[fl,z.out,B.out,F.out,K.out,M.out,X.out,hx7]);rw[hx7]at HC7;clear hx7;go_wp2_with fail;refine P2 HC7 fun w1 P=>?_;unfold dK;go_wp2;exact⟨rfl,bD.none E (HSW8.fr.trans P)⟩
       |some p=>
        obtain⟨until_,l7⟩:=p;have HX7:=Tn hx7;rw[hx7]at HC7;clear hx7;go_wp2_with fail;refine HC7.out.mono ?_;rintro e W9⟨⟨rfl,hR7⟩,hF7⟩;have HSW9:=Tn (HSW8.call hF7 hR7);have szW9:W8.heap.size<=W9.heap.size:=hF7.size;have Q:=Tn (km HST5W7W8 hF7 Ph Ph);clear hR7 hF7;have HC8:=Tn (Ak l7 rb W9 HSW9.rd);cases hx8:bX ij l7 with
        |none=>
         have E:Hid (fl R=U8):=Tn (by simp[fl,z.out,B.out,F.out,K.out,M.out,X.out,HX7.out,hx8]);rw[hx8]at HC8;clear hx8;go_wp2_with fail;refine P2 HC8 fun w1 P=>?_;unfold dK;go_wp2;exact⟨rfl,bD.none E (HSW9.fr.trans P)⟩
        |some p=>
         obtain⟨ca,l8⟩:=p;have HX8:=Tn hx8;rw[hx8]at HC8;clear hx8;go_wp2_with fail;refine HC8.out.mono ?_;rintro e W10⟨⟨rfl,hR8⟩,hF8⟩;have T:=Tn (HSW9.call hF8 hR8);have szW10:W9.heap.size<=W10.heap.size:=hF8.size;have A:=Tn (km Q hF8 Ph Ph);clear hR8 hF8;have HC9:=Tn (oW l8 rb W10 T.rd);cases ah:cA l8 with
         |none=>
          have E:Hid (fl R=U8):=Tn (by simp[fl,z.out,B.out,F.out,K.out,M.out,X.out,HX7.out,HX8.out,ah]);rw[ah]at HC9;clear ah;go_wp2_with fail;refine P2 HC9 fun w1 P=>?_;unfold dK;go_wp2;exact⟨rfl,bD.none E (T.fr.trans P)⟩
         |some p=>
          obtain⟨depth,l9⟩:=p;have HX9:=Tn ah;rw[ah]at HC9;clear ah;go_wp2_with fail;refine HC9.out.mono ?_;rintro e S⟨⟨rfl,hR9⟩,hF9⟩;have q:=Tn (T.call hF9 hR9);have szW11:W10.heap.size<=S.heap.size:=hF9.size;have s:=Tn (km A hF9 Ph Ph);clear hR9 hF9;have e5:S.cell? ⟨D,5,U8⟩=Ts (Ti Tl 0):=q.out.row.cell (i:=5) Pi;have g5:=q.out.row.free 5;have e6:S.cell? ⟨D,6,U8⟩=Ts (Ti Tl 0):=q.out.row.cell (i:=6) Pi;have g6:=q.out.row.free 6;have e7:S.cell? ⟨D,7,U8⟩=Ts (U1 false):=q.out.row.cell (i:=7) Pi;have g7:=q.out.row.free 7;have e8:S.cell? ⟨D,8,U8⟩=Ts (Ti Tl 0):=q.out.row.cell (i:=8) Pi;have g8:=q.out.row.free 8;go_upto_region 4 with fail;refine P1 ((((S.setCell ⟨D,5,U8⟩ (Ti Tl from_)).setCell ⟨D,6,U8⟩ (Ti Tl until_)).setCell ⟨D,7,U8⟩ (U1 ca)).setCell ⟨D,8,U8⟩ (Ti Tl depth)) fun W12 N=>have L:=Tn ((((q.put 5 (Ti Tl from_)).put 6 (Ti Tl until_)).put 7 (U1 ca)).put 8 (Ti Tl depth));?_;rw[N]at L;have j:=Tn (aV (D:=D) (i:=8) (v:=Ti Tl depth) (aV (D:=D) (i:=7) (v:=U1 ca) (aV (D:=D) (i:=6) (v:=Ti Tl until_) (aV (D:=D) (i:=5) (v:=Ti Tl from_) s Ph) Ph) Ph) Ph);rw[N]at j;rw[N];have szW12:W12.heap.size=S.heap.size:=by rw[<-N];simp[XY]
          clear N e5 g5 e6 g6 e7 g7 e8 g8;have ab:=Tn (zA l9 rb W12 L.rd);cases H:iq l9 with
          |none=>
           have E:Hid (fl R=U8):=Tn (by simp[fl,z.out,B.out,F.out,K.out,M.out,X.out,HX7.out,HX8.out,HX9.out,H]);rw[H]at ab;clear H;go_wp2_with fail;refine P2 ab fun w1 P=>?_;unfold dK;go_wp2;exact⟨rfl,bD.none E (L.fr.trans P)⟩
          |some p=>
           obtain⟨permit,l10⟩:=p;have HX10:=Tn H;rw[H]at ab;clear H;go_wp2_with fail;refine ab.out.mono ?_;rintro e W13⟨⟨pa,pc,rfl,hnl10,hnm10,hns10,hst10,hR10⟩,Z⟩;refine P4 hst10 (L.call Z hR10) fun HST10 W=>have szW13:W12.heap.size<=W13.heap.size:=Z.size;have m:=Tn (km j Z Ph Ph);?_;clear hR10 Z hst10;have e9:W13.cell? ⟨D,9,U8⟩=Ts (zz):=W.out.row.cell (i:=9) Pi;have g9:=W.out.row.free 9;go_upto_region 5 with fail;refine P1 (W13.setCell ⟨D,9,U8⟩ (Tm pa permit.length pc)) fun W14 G=>have b:=Tn (W.put 9 (Tm pa permit.length pc));?_;rw[G]at b;have g:=Tn (aV (D:=D) (i:=9) (v:=Tm pa permit.length pc) m Ph);rw[G]at g;have J:=Tn (aV (D:=D) (i:=9) (v:=Tm pa permit.length pc) HST10 Ph);rw[G]at J;rw[G];have szW14:W14.heap.size=W13.heap.size:=by rw[<-G];simp[XY]
           clear G e9 g9;go_wp2_with fail;refine(zX l10 rb W14 b.rd).mono ?_;cases l10 with
           |cons y l=>
            have E:Hid (fl R=U8):=Tn Qf;rintro e w1⟨rfl,he⟩;rw[show e=dK from he];unfold dK;go_wp2;exact⟨rfl,bD.none E b.fr⟩
           |nil=>
            rintro e w1⟨rfl,he⟩;rw[show e=UO (UW #[])from he];clear he;have E:Hid (fl R=Ts ⟨serial,issuer,subject,key,names,from_,until_,ca,depth,permit,[],⟨0,0⟩⟩):=Tn Qf;refine Nu b.row (Ti Tl serial) (UH (aL issuer)) (UH (aL subject)) (ag key) (Tm na names.length nc) (Ti Tl from_) (Ti Tl until_) (U1 ca) (Ti Tl depth) (Tm pa permit.length pc) (zz) (Ti Tt 0) (Ti Tt 0) rfl fun e0 am e2 e3 e4 e5 e6 e7 e8 e9 e10 e11 e12=>have g0:=b.out.row.free 0;have g1:=b.out.row.free 1;have g2:=b.out.row.free 2;have g3:=b.out.row.free 3;have g4:=b.out.row.free 4;have g5:=b.out.row.free 5;have g6:=b.out.row.free 6;have g7:=b.out.row.free 7;have g8:=b.out.row.free 8;have g9:=b.out.row.free 9;have g10:=b.out.row.free 10;have g11:=b.out.row.free 11;have g12:=b.out.row.free 12;PT w1 D (Ti Tl serial) (UH (aL issuer)) (UH (aL subject)) (ag key) (Tm na names.length nc) (Ti Tl from_) (Ti Tl until_) (U1 ca) (Ti Tl depth) (Tm pa permit.length pc) (zz) (Ti Tt 0) (Ti Tt 0) fun V hV=>have HSV:=Tn (((((((((((((b.put 0 (Ti Tl serial)).put 1 (UH (aL issuer))).put 2 (UH (aL subject))).put 3 (ag key)).put 4 (Tm na names.length nc)).put 5 (Ti Tl from_)).put 6 (Ti Tl until_)).put 7 (U1 ca)).put 8 (Ti Tl depth)).put 9 (Tm pa permit.length pc)).put 10 (zz)).put 11 (Ti Tt 0)).put 12 (Ti Tt 0));?_;rw[hV]at HSV;refine P4 hV (aV (D:=D) (i:=12) (v:=Ti Tt 0) (aV (D:=D) (i:=11) (v:=Ti Tt 0) (aV (D:=D) (i:=10) (v:=zz) (aV (D:=D) (i:=9) (v:=Tm pa permit.length pc) (aV (D:=D) (i:=8) (v:=Ti Tl depth) (aV (D:=D) (i:=7) (v:=U1 ca) (aV (D:=D) (i:=6) (v:=Ti Tl until_) (aV (D:=D) (i:=5) (v:=Ti Tl from_) (aV (D:=D) (i:=4) (v:=Tm na names.length nc) (aV (D:=D) (i:=3) (v:=ag key) (aV (D:=D) (i:=2) (v:=UH (aL subject)) (aV (D:=D) (i:=1) (v:=UH (aL issuer)) (aV (D:=D) (i:=0) (v:=Ti Tl serial) g Ph) Ph) Ph) Ph) Ph) Ph) Ph) Ph) Ph) Ph) Ph) Ph) Ph) fun HV HQ0=>?_;rw[hV]at HQ0;have HQ1:=Tn (aV (D:=D) (i:=12) (v:=Ti Tt 0) (aV (D:=D) (i:=11) (v:=Ti Tt 0) (aV (D:=D) (i:=10) (v:=zz) (aV (D:=D) (i:=9) (v:=Tm pa permit.length pc) (aV (D:=D) (i:=8) (v:=Ti Tl depth) (aV (D:=D) (i:=7) (v:=U1 ca) (aV (D:=D) (i:=6) (v:=Ti Tl until_) (aV (D:=D) (i:=5) (v:=Ti Tl from_) (aV (D:=D) (i:=4) (v:=Tm na names.length nc) (aV (D:=D) (i:=3) (v:=ag key) (aV (D:=D) (i:=2) (v:=UH (aL subject)) (aV (D:=D) (i:=1) (v:=UH (aL issuer)) (aV (D:=D) (i:=0) (v:=Ti Tl serial) J Ph) Ph) Ph) Ph) Ph) Ph) Ph) Ph) Ph) Ph) Ph) Ph) Ph);rw[hV]at HQ1;have szV:V.heap.size=w1.heap.size:=by rw[<-hV];simp[XY]
            clear hV;go_wp2_with fail;rw[HV.out];refine Nu HSV.row (Ti Tl serial) (UH (aL issuer)) (UH (aL subject)) (ag key) (Tm na names.length nc) (Ti Tl from_) (Ti Tl until_) (U1 ca) (Ti Tl depth) (Tm pa permit.length pc) (zz) (Ti Tt 0) (Ti Tt 0) rfl fun q0 q1 q2 q3 q4 q5 q6 q7 q8 q9 q10 q11 q12=>VC (v:=fx ⟨serial,issuer,subject,key,names,from_,until_,ca,depth,permit,[],⟨0,0⟩⟩ ⟨na,nc,pa,pc,U8,0⟩) (by simp[fx,Vo,results165,go_sem,q0,q1,q2,q3,q4,q5,q6,q7,q8,q9,q10,q11,q12]) rfl ?_;refine bD.some E ⟨⟨na,nc,pa,pc,U8,0⟩,rfl,rfl,rfl,rfl,?_,?_⟩ HSV.fr
            .intro w2 c;refine⟨HQ0 w2 (fun k o=>c k ⟨Zab,Zbr⟩),hnl5,hnm5,HQ1 w2 (fun k o=>c k ⟨Zab,Zbr⟩),hnl10,hnm10,?_,UY _,VF _⟩;intro i y U;simp at U
            have s1:=iu z HSM;have t2:=oS B s1;have t3:=oS F t2.2;have s4:=Gi K t3.2;have t5:=ro M s4;have t10:=ro HX10 (iu HX9 (tM HX8 (iu HX7 (iu X t5.2.2))));exact⟨WF hkey Pi,show(0:Nat)<_ from Pi,show(0:Nat)<_ from Pi,fun p x=>Zbq,t2.1,t3.1,t5.1,t10.1,t5.2.1,t10.2.1,VF _⟩
section
def BD{w:UN}{base n}{v:UV}{l:List gW}(hn:l.length=n)(h:w.ownsRow base 101 6 v n (l.flatMap kO)):∃a c,v=Tm a n c/\n<=c/\c<=VL/\gP (ta base w.heap.size) w fun d=>Kl d a l:=by
 obtain⟨a,c,h1,f,A,y⟩:=kZ (m:=6) (R:=Nd) (cells:=kO) (fun _=>rfl) (fun b o x g J=>⟨QR,J 1 _ rfl,J 2 _ rfl,J 3 _ rfl,J 4 _ rfl,J 5 _ rfl⟩) hn h;rw[hn]at h1 f;refine⟨a,c,h1,f,A,fun d u=>fun j x g=>?_⟩;obtain⟨b,off,rfl,k0,r,q,p,s,t⟩:=y j x g;have hb:=h.lt b Zby;have e:=u b hb;exact⟨b,off,rfl,(Wj e).trans k0,(Wj e).trans r,(Wj e).trans q,(Wj e).trans p,(Wj e).trans s,(Wj e).trans t⟩
structure rA(w W:UN)(rb r2 C B b0 e0 A2 B2:Nat)(l2 rest:List aQ)(c:ff)(x:nj)(v:UV)(ps:List gW):Prop where
 rd:mv W rb l2
 rd2:fp W r2 A2 B2 rest
 p1:A2<=C
 p2:C<B2
 row:aS W C 97 (sC (pE c x) 10 v) 13
 own:W.ownsRow B 101 6 v ps.length (ps.flatMap kO)
 st:gP (ta b0 e0) W (fun w2=>lF w2 c x)
 fr:Fr (·=rb) w W
 o1:rb<w.heap.size
 o2:w.heap.size<=b0
 o3:e0<=C
 o4:C<r2
 o5:r2<B
 o6:B<=W.heap.size
 o7:w.heap.size<=C
variable {w W W':UN} {rb r2 C B b0 e0 A2 B2:Nat} {l2 rest rest':List aQ} {c:ff} {x:nj} {v:UV} {ps:List gW}
def rA.next(h:rA w W rb r2 C B b0 e0 A2 B2 l2 rest c x v ps)(P:Fr (·=r2) W W')(f:fp W' r2 A2 B2 rest'):rA w W' rb r2 C B b0 e0 A2 B2 l2 rest' c x v ps:=by
 have o1:=h.o1;have o2:=h.o2;have o3:=h.o3;have o4:=h.o4;have o5:=h.o5;have o6:=h.o6;have o7:=h.o7
 exact⟨h.rd.fr P (fun k o=>by have e:k=r2:=o;omega),f,h.p1,h.p2,h.row.fr P (fun e=>by have b:C=r2:=e;omega),eM h.own P (fun g S e=>by have:=bE h.own g S;have b:g=r2:=e;omega),h.st.fr P Ph (fun k o d=>by have e:k=r2:=o;have:=d.2;omega) (UY _) (UY _),
  h.fr.onto P (fun i hi e=>by have b:i=r2:=e;omega),o1,o2,o3,o4,o5,VG o6 P.size,o7⟩
def rA.fr3{S:Nat->Prop}(h:rA w W rb r2 C B b0 e0 A2 B2 l2 rest c x v ps)(P:Fr S W W')(l:∀k,S k->B<=k/\v.ownBlock≠Ts k):rA w W' rb r2 C B b0 e0 A2 B2 l2 rest c x v ps:=by
 have o1:=h.o1;have o2:=h.o2;have o3:=h.o3;have o4:=h.o4;have o5:=h.o5;have o6:=h.o6;have o7:=h.o7
 exact⟨h.rd.fr P (fun k o=>by have:=(l k o).1;omega),h.rd2.fr P (fun k o=> .inr (by have:=(l k o).1;omega)),h.p1,h.p2,h.row.fr P (fun e=>by have:=(l _ e).1;omega),eM h.own P (fun g d e=>(l g e).2 d),h.st.fr P Ph (fun k o b=>by have:=(l k o).1;have:=b.2;omega) (UY _) (UY _),
  h.fr.onto P (fun i hi e=>by have:=(l i e).1;omega),o1,o2,o3,o4,o5,VG o6 P.size,o7⟩
def rA.snoc{g cap n:Nat}{p}{o:Obj}(h:rA w W rb r2 C B b0 e0 A2 B2 l2 rest c x v ps)(hn:ps.length=n)(r:W'.ownsRow B 101 6 (Tm (Ts ⟨g,0,U8⟩) (n+1) cap) (n+1) (ps.flatMap kO++kO p))(f:(W.alloc o).grownBy W' v.ownBlock):
  rA w (W'.setCell ⟨C,10,U8⟩ (Tm (Ts ⟨g,0,U8⟩) (n+1) cap)) rb r2 C B b0 e0 A2 B2 l2 rest c x (Tm (Ts ⟨g,0,U8⟩) (n+1) cap) (ps++[p]):=by
 have o1:=h.o1;have o2:=h.o2;have o3:=h.o3;have o4:=h.o4;have o5:=h.o5;have o6:=h.o6;have o7:=h.o7;have P:Fr (fun k=>B<=k) W W':=(ZD _ W o).trans ((ZG f).mono fun _ _ e=>bE h.own _ e);have l:=Uz (S:=fun k=>k=C) W' ⟨C,10,U8⟩ (Tm (Ts ⟨g,0,U8⟩) (n+1) cap) rfl;refine⟨(h.rd.fr P (fun k b=>Ph)).fr l (fun k b=>by have e:k=C:=b;omega),((h.rd2.fr P (fun k b=> .inr Ph)).fr l (fun k b=> .inl (by have e:k=C:=b;have:=h.p1;have:=h.p2;omega))),h.p1,h.p2,?_,?_,((h.st.fr P Ph (fun k b d=>by have:=d.2;omega) (UY _) (UY _)).fr l (by have:=P.size;omega) (fun k b d=>by have e:k=C:=b;have:=d.2;omega) (UY _) (UY _)),(h.fr.onto P (fun i hi e=>Ph)).onto l (fun i hi e=>by have j:i=C:=e;omega),o1,o2,o3,o4,o5,VG o6 (VG P.size l.size),o7⟩
 .have:=(h.row.fr P (fun e=>Ph)).put 10 (Tm (Ts ⟨g,0,U8⟩) (n+1) cap);exact this.as fun i _=>by unfold sC;split<;>rfl
 rw[Xw,Uo,WJ,hn,List.flatMap_singleton];exact eM r l (fun k b e=>by have:=bE r k b;have j:k=C:=e;omega)
end
def Ax:(UB.info? 101).map (fun i=>(i.zero,i.size,i.bytes))=Ts (Ts (UT #[Ti Tl 0,Ti Tl 0,Ti Tt 0,Ti Tt 0,Ti Tt 0,Ti Tt 0]),6,48):=Pg
def ae5(w:UN)(c:ff)(e:Xo)(b:UN):Prop:=∃x,e=UO (fx c x)/\gP (ta w.heap.size b.heap.size) b (fun d=>lF d c x)/\kQ c
def abQ(c x):fK (pE c x) 13=(wV c x).toArray:=by
 have h:=mH (wV c x).toArray VM;have e:(fun i=>(wV c x).toArray.getD i VM)=pE c x:=by
  funext i;unfold pE;simp[List.getD]
 rw[e]at h;exact h
def aa6{c:ff}{x:nj}(h1:x.ra=U8)(b:x.rc=0)(A:c.proms=[])(i):pE c x i=sC (pE c x) 10 (zz) i:=by
 unfold sC;by_cases h:i=10
 .subst h;rw[if_pos rfl];unfold pE wV;rw[h1,b,A];rfl
 rw[if_neg h]
def Ev{l:List aQ}{p}(h:jl l=Ts p):OU p:=by
 unfold jl at h;simp only[Option.bind_eq_some_iff]at h;obtain⟨⟨a1,l1⟩,_,⟨a2,l2⟩,_,⟨a3,l3⟩,A,⟨a4,o⟩,f,⟨a5,s⟩,c,⟨a6,j⟩,d,b⟩:=h;have key:∀{l r:List aQ}{n:Nat},kT l=Ts (n,r)->n<2^64:=fun{l r n}h=>by
  unfold kT at h;cases J:cA l with
  |none=>rw[J]at h;cases h
  |some q=>
   rw[J]at h;obtain⟨m,g⟩:=q;obtain⟨_,q1,q2⟩:=oO J;cases h;show m.toNat<_
   omega
 dsimp only at b;split at b
 .cases b;exact⟨key A,key f,key c,key d⟩
 cases b
def Gw{l:List aQ}(h:bX bO l=U8):eI l=U8:=by unfold eI;rw[h];rfl
def EN{l l1 y:List aQ}(h:bX bO l=Ts (y,l1))(c:fl y=U8):eI l=U8:=by
 unfold eI;rw[h];show(fl y).bind _=U8;rw[c];rfl
def F7{l l1 y:List aQ}{c:ff}(h:bX bO l=Ts (y,l1))(b:fl y=Ts c)(A:bX bO l1=U8):eI l=U8:=by
 unfold eI;rw[h];show(fl y).bind _=U8;rw[b];show(bX bO l1).bind _=U8;rw[A];rfl
def Kh{l l1 l2 y z:List aQ}{c:ff}(h:bX bO l=Ts (y,l1))(b:fl y=Ts c)(A:bX bO l1=Ts (z,l2)):eI l=(dF z).bind fun ps=>if l2.isEmpty then Ts {c with proms:=ps}else U8:=by
 unfold eI;rw[h];show(fl y).bind _=_;rw[b];show(bX bO l1).bind _=_;rw[A];rfl
def Be{z:aQ}{l y:List aQ}(h:bO z=Ts y):dF (z::l)=(jl y).bind fun p=>(dF l).map (p::·):=by
 rw[dF,h];rfl
def Kc(l0:List aQ)(rb w)(h:mv w rb l0):VB UB 96 #[UK (Ts ⟨rb,0,U8⟩)] w (bD (·=rb) (eI l0) w (ae5 w)):=by
 obtain⟨A,B0,h⟩:=h;have hrl:=h.lt;have hoa:=h.oa;refine P1 w.heap.size fun D hD=>P1 (w.alloc (Tq #[Ti Tl 0,UH ⟨#[]⟩,UH ⟨#[]⟩,Ti Tt 0,zz,Ti Tl 0,Ti Tl 0,U1 false,Ti Tl 0,zz,zz,Ti Tt 0,Ti Tt 0] 97)) fun f d=>have HR0:=Tn (show fp f rb A B0 l0 by rw[<-d];exact h.ext (af P0 _));have HD0:Hid (aS f D 97 oL 13):=Tn (by rw[<-d,<-hD];exact(UZ _ _).trans (congrArg (fun r=>Ts (Tq r 97 (0,0))) (mH #[Ti Tl 0,UH ⟨#[]⟩,UH ⟨#[]⟩,Ti Tt 0,zz,Ti Tl 0,Ti Tl 0,U1 false,Ti Tl 0,zz,zz,Ti Tt 0,Ti Tt 0] VM).symm));have HF0:Hid (Fr (fun k=>k=rb) w f):=Tn (by rw[<-d];exact ZD _ _ _);?_;have szW0:f.heap.size=w.heap.size+1:=by rw[<-d,Ud]
 clear h;go_enter func96,ntmps96;go_upto_region 1 with fail;try rw[d]
 try rw[hD]
 clear d;have HC1:=Tn (rp l0 rb A B0 f HR0);cases F:bX bO l0 with
 |none=>
  have W:=Tn (Gw F);rw[F]at HC1;clear F;go_wp2_with fail;refine P2 HC1 fun w1 T=>?_;unfold dK;go_wp2;exact⟨rfl,bD.none W (HF0.trans T)⟩
 |some p=>
  obtain⟨y1,l1⟩:=p;have X:=Tn F;rw[F]at HC1;clear F;go_wp2_with fail;refine HC1.out.mono ?_;rintro e t⟨⟨r1,rfl,M,⟨A1,hA1,hrd1⟩,hrd⟩,hF1⟩;refine P4 (HF0.trans hF1) hrd fun HF1 HRD1=>have sz1:f.heap.size<=t.heap.size:=hF1.size;have hr1l:=hrd1.lt;P4 (HD0.fr hF1 (fun e=>by have m:D=rb:=e;omega)) (aaG y1 r1 t ⟨_,_,hrd1⟩) fun HD1 HC2=>?_;clear hrd hrd1 hF1 HC1;cases E:fl y1 with
  |none=>
   have W:=Tn (EN X E);rw[E]at HC2;clear E;go_wp2_with fail;refine P2 HC2 fun w1 T=>?_;unfold dK;go_wp2;exact⟨rfl,bD.none W (HF1.onto T (fun i hi e=>by have m:i=r1:=e;omega))⟩
  |some c=>
   have HX2:=Tn E;rw[E]at HC2;clear E;go_wp2_with fail;refine HC2.out.mono ?_;rintro e I⟨⟨x,rfl,hra,hrc,hpr,hst,hcn⟩,ab⟩;refine PC (HF1.onto ab (fun i hi e=>by have m:i=r1:=e;omega)) (HRD1.fr ab (fun k o=> .inr (by have m:k=r1:=o;omega))) (HD1.fr ab (fun e=>by have m:D=r1:=e;omega)) hst hcn fun HF2 HRD2 HD2 HST HCN=>have sz2:t.heap.size<=I.heap.size:=ab.size;?_;clear hst hcn ab HC2;have hcv:fx c x=UT #[Ti Tl c.serial,UH (aL c.issuer),UH (aL c.subject),ag c.key,Tm x.na c.names.length x.nc,Ti Tl c.from_,Ti Tl c.until_,U1 c.ca,Ti Tl c.depth,Tm x.pa c.permit.length x.pc,zz,ag c.sig.e,ag c.sig.s]:=by unfold fx;rw[hra,hrc,hpr];rfl
   have hcc:(wV c x).toArray=#[Ti Tl c.serial,UH (aL c.issuer),UH (aL c.subject),ag c.key,Tm x.na c.names.length x.nc,Ti Tl c.from_,Ti Tl c.until_,U1 c.ca,Ti Tl c.depth,Tm x.pa c.permit.length x.pc,zz,ag c.sig.e,ag c.sig.s]:=by unfold wV;rw[hra,hrc,hpr];rfl
   rw[hcv];refine P1 I.heap.size fun C hC=>P1 (I.alloc (Tq #[Ti Tl c.serial,UH (aL c.issuer),UH (aL c.subject),ag c.key,Tm x.na c.names.length x.nc,Ti Tl c.from_,Ti Tl c.until_,U1 c.ca,Ti Tl c.depth,Tm x.pa c.permit.length x.pc,zz,ag c.sig.e,ag c.sig.s] 97)) fun O hW3=>have Id:Hid (aq I O):=Tn (by rw[<-hW3];exact af P0 _);have HROW3:Hid (aS O C 97 (pE c x) 13):=Tn (by rw[<-hW3,<-hC];unfold aS;rw[abQ,hcc];exact UZ _ _);?_;have sz3:O.heap.size=C+1:=by rw[<-hW3,Ud,hC]
   clear hcv hcc;go_upto_region 2 with fail;(try rw[hW3]);(try rw[hC]);clear hW3;have HC3:=Tn (rp l1 rb A B0 O (HRD2.ext Id));cases L:bX bO l1 with
   |none=>
    have W:=Tn (F7 X HX2 L);rw[L]at HC3;clear L;go_wp2_with fail;refine P2 HC3 fun w1 T=>?_;unfold dK;go_wp2;exact⟨rfl,bD.none W ((HF2.trans (Uh Id)).trans T)⟩
   |some p=>
    obtain⟨y2,l2⟩:=p;have HBS:=Tn (Kh X HX2 L);rw[L]at HC3;clear L;go_wp2_with fail;refine HC3.out.mono ?_;rintro e W4⟨⟨r2,rfl,hr2,⟨A2,hA2,N⟩,hrd⟩,Y⟩;have hr2l:=N.lt;have sz4:O.heap.size<=W4.heap.size:=Y.size;have HS4:Hid (rA w W4 rb r2 C W4.heap.size t.heap.size I.heap.size A2 O.heap.size l2 y2 c x (zz) []):=Tn
     ⟨⟨_,_,hrd⟩,N,Ph,Ph,(HROW3.fr Y (fun e=>by have m:C=rb:=e;omega)).as (fun i _=>aa6 hra hrc hpr i),WO _ _ _ _,
      (HST.fr (Uh (S:=fun _=>False) Id) (UY _) (fun _ o=>o.elim) (UY _) (UY _)).fr Y Ph (fun k o hB=>by have m:k=rb:=o;have h1:=hB.1;omega) (UY _) (UY _),
      (HF2.trans (Uh Id)).trans Y,hrl,Ph,Ph,Ph,hr2l,UY _,Ph⟩
    have HD4:=Tn ((HD2.ext Id).fr Y (fun e=>by have m:D=rb:=e;omega));refine P1 W4.heap.size fun B hB=>?_;rw[hB]at HS4;have hy2:y2.length<=1000000:=N.short;clear hrd N Y HC3;go_wp2;go_loopw [5] (fun _ wr=>∃(v:UV)(ps:List gW)(rest:List aQ),rA w wr rb r2 C B t.heap.size I.heap.size A2 O.heap.size l2 rest c x v ps/\aS wr D 97 oL 13/\dF y2=(dF rest).map (ps++·)/\ps.length+rest.length<=1000000/\∀p∈ps,OU p) (fun _ wr=>boxN wr r2)
    case atStart=>exact⟨_,[],y2,HS4,HD4,by cases dF y2<;>rfl,by simpa using hy2,fun p hp=>Zbw⟩
    obtain⟨v,ps,rest,hbs,hdr,hpg,hlen,hpn⟩:=hrel;refine P5 hbs hdr hpg hpn fun u HDR HPG HPN=>?_;clear hbs hdr hpg hpn;cases rest with
    |nil=>
     obtain⟨a0,c0',hbx⟩:=u.out.rd2.none;have c0:=hbx.cell;clear hbx;go_wp2_with fail;refine(zX l2 rb wr u.rd).mono ?_;cases l2 with
     |cons y l=>
      have W:Hid (eI l0=U8):=Tn (by rw[HBS.out];cases dF y2<;>rfl);rintro e w1⟨rfl,he⟩;rw[show e=dK from he];unfold dK;go_wp2;exact⟨rfl,bD.none W u.fr⟩
     |nil=>
      have W:Hid (eI l0=Ts {c with proms:=ps}):=Tn (by rw[HBS.out,HPG.out,dF];simp);rintro e w1⟨rfl,he⟩;rw[show e=UO (UW #[])from he];obtain⟨va,vc,rfl,hv1,hv2,hv3⟩:=BD rfl u.out.own;have HV3:=Tn hv3;clear he c0 hv3;refine Nu u.row (Ti Tl c.serial) (UH (aL c.issuer)) (UH (aL c.subject)) (ag c.key) (Tm x.na c.names.length x.nc) (Ti Tl c.from_) (Ti Tl c.until_) (U1 c.ca) (Ti Tl c.depth) (Tm x.pa c.permit.length x.pc) (Tm va ps.length vc) (ag c.sig.e) (ag c.sig.s) rfl fun c0 c1 c2 c3 c4 c5 c6 c7 c8 c9 c10 c11 c12=>ajU HDR fun e0 am e2 e3 e4 e5 e6 e7 e8 e9 e10 e11 e12 g0 g1 g2 g3 g4 g5 g6 g7 g8 g9 g10 g11 g12=>PT w1 D (Ti Tl c.serial) (UH (aL c.issuer)) (UH (aL c.subject)) (ag c.key) (Tm x.na c.names.length x.nc) (Ti Tl c.from_) (Ti Tl c.until_) (U1 c.ca) (Ti Tl c.depth) (Tm x.pa c.permit.length x.pc) (Tm va ps.length vc) (ag c.sig.e) (ag c.sig.s) fun V hV=>have HVR:=Tn (((((((((((((HDR.put 0 (Ti Tl c.serial)).put 1 (UH (aL c.issuer))).put 2 (UH (aL c.subject))).put 3 (ag c.key)).put 4 (Tm x.na c.names.length x.nc)).put 5 (Ti Tl c.from_)).put 6 (Ti Tl c.until_)).put 7 (U1 c.ca)).put 8 (Ti Tl c.depth)).put 9 (Tm x.pa c.permit.length x.pc)).put 10 (Tm va ps.length vc)).put 11 (ag c.sig.e)).put 12 (ag c.sig.s));?_;rw[hV]at HVR;have HVF:=Tn ((((((((((((((Z5 (fun k=>k=D) w1).trans (Uz (S:=fun k=>k=D) _ ⟨D,0,U8⟩ (Ti Tl c.serial) rfl)).trans (Uz (S:=fun k=>k=D) _ ⟨D,1,U8⟩ (UH (aL c.issuer)) rfl)).trans (Uz (S:=fun k=>k=D) _ ⟨D,2,U8⟩ (UH (aL c.subject)) rfl)).trans (Uz (S:=fun k=>k=D) _ ⟨D,3,U8⟩ (ag c.key) rfl)).trans (Uz (S:=fun k=>k=D) _ ⟨D,4,U8⟩ (Tm x.na c.names.length x.nc) rfl)).trans (Uz (S:=fun k=>k=D) _ ⟨D,5,U8⟩ (Ti Tl c.from_) rfl)).trans (Uz (S:=fun k=>k=D) _ ⟨D,6,U8⟩ (Ti Tl c.until_) rfl)).trans (Uz (S:=fun k=>k=D) _ ⟨D,7,U8⟩ (U1 c.ca) rfl)).trans (Uz (S:=fun k=>k=D) _ ⟨D,8,U8⟩ (Ti Tl c.depth) rfl)).trans (Uz (S:=fun k=>k=D) _ ⟨D,9,U8⟩ (Tm x.pa c.permit.length x.pc) rfl)).trans (Uz (S:=fun k=>k=D) _ ⟨D,10,U8⟩ (Tm va ps.length vc) rfl)).trans (Uz (S:=fun k=>k=D) _ ⟨D,11,U8⟩ (ag c.sig.e) rfl)).trans (Uz (S:=fun k=>k=D) _ ⟨D,12,U8⟩ (ag c.sig.s) rfl));rw[hV]at HVF;have HV:=Tn hV;clear hV;go_wp2_with fail;rw[HV.out];refine Nu HVR (Ti Tl c.serial) (UH (aL c.issuer)) (UH (aL c.subject)) (ag c.key) (Tm x.na c.names.length x.nc) (Ti Tl c.from_) (Ti Tl c.until_) (U1 c.ca) (Ti Tl c.depth) (Tm x.pa c.permit.length x.pc) (Tm va ps.length vc) (ag c.sig.e) (ag c.sig.s) rfl fun q0 q1 q2 q3 q4 q5 q6 q7 q8 q9 q10 q11 q12=>have o1:=u.out.o1;have o2:=u.out.o2;have o3:=u.out.o3;have o4:=u.out.o4;have o5:=u.out.o5;have o6:=u.out.o6;have o7:=u.out.o7;have szv:=HVF.out.size;VC (v:=fx {c with proms:=ps} ⟨x.na,x.nc,x.pa,x.pc,va,vc⟩) (by simp[fx,Vo,results96,go_sem,q0,q1,q2,q3,q4,q5,q6,q7,q8,q9,q10,q11,q12]) rfl ?_;refine bD.some W ⟨⟨x.na,x.nc,x.pa,x.pc,va,vc⟩,rfl,?_,?_⟩ (u.fr.onto HVF (fun i hi e=>by have m:i=D:=e;omega))
      .intro w2 h2;have hin:∀k,w.heap.size<k->k<w1.heap.size->w2.heap[k]?=w1.heap[k]? :=fun k h1 h3=>(h2 k ⟨Ph,Ph⟩).trans (HVF.block k h3 (fun e=>by have m:k=D:=e;omega));have J:=u.out.st w2 (fun k o=>hin k Zab Zbr);exact⟨J.names,J.nl,J.nm,J.permit,J.pl,J.pm,HV3 w2 (fun k o=>hin k Zab o.2),hv1,hv2⟩
      have hn:=HCN.out;exact⟨hn.key,hn.e,hn.s,HPN,hn.iss,hn.sub,hn.nms,hn.prt,hn.nl,hn.pl,by simpa using hlen⟩
    |cons z rest=>
     rw[Up]at hlen;obtain⟨zt,zb,zl⟩:=z;have o1:=u.out.o1;have o2:=u.out.o2;have o3:=u.out.o3;have o4:=u.out.o4;have o5:=u.out.o5;have o6:=u.out.o6;have o7:=u.out.o7;have hp1:=u.out.p1;obtain⟨_,_,_,_,n,cc0,_,_,_,_,_,_,_,hn,hnc,hcm,hbx,_⟩:=u.out.rd2.head;have c0:=hbx.cell;have HC4:=Tn (rp (.mk zt zb zl::rest) r2 A2 O.heap.size wr u.rd2);clear hbx;cases hz:bO (.mk zt zb zl)with
     |none=>
      have W:Hid (eI l0=U8):=Tn (by rw[HBS.out,HPG.out,show dF (.mk zt zb zl::rest)=U8 from by rw[dF,hz];rfl];rfl);rw[show bX bO (.mk zt zb zl::rest)=U8 from YM]at HC4;clear hz;go_wp2_with fail;refine P2 HC4 fun w1 T=>?_;unfold dK;go_wp2;exact⟨rfl,bD.none W (u.fr.onto T (fun i hi e=>by have m:i=r2:=e;omega))⟩
     |some y=>
      have HPC:Hid (dF y2=((jl y).bind fun p=>(dF rest).map (p::·)).map (ps++·)):=Tn (by rw[HPG.out,Be hz]);have HNO:Hid (jl y=U8->eI l0=U8):=Tn (fun h=>by rw[HBS.out,HPC.out,h];rfl);rw[show bX bO (.mk zt zb zl::rest)=Ts (y,rest)from YM]at HC4;obtain⟨va,vc,hv,hv1,hv2,_⟩:=BD rfl u.out.own;subst hv;refine P1 ps.length fun P hP=>have HP:=Tn hP;?_;rw[hP]at u hlen hv1;clear hz hP;go_wp2_with fail;refine HC4.out.mono ?_;rintro e U0⟨⟨U,rfl,hr3,⟨A3,hA3,hrd3⟩,N⟩,T⟩;have HS0:=Tn ((u.next T N).fr3 (Xg (fun _=>False) U0) (fun _ o=>o.elim));have hob:∀g,Vt (Tm va P vc)=Ts g->g<wr.heap.size:=fun g hg=>(u.own.lt g hg).2;refine P3 hob ((HDR.fr T (fun e=>by have m:D=r2:=e;omega)).ext (ap _)) (hrd3.ext (ap _)) fun HOB HDR0 HRR=>have hcell:U0.cell? ⟨C,10,U8⟩=Ts (Tm va P vc):=(u.next T N).row.cell (i:=10) Pi;have hsU:wr.heap.size<=U0.heap.size:=T.size;?_;obtain⟨i0,hi,hz0,hz1,hz2⟩:=WN Ax;refine P5 hi hz0 hz1 hz2 fun HI HZ0 HZ1 HZ2=>?_;clear hrd3 N T HC4 hob hi hz0 hz1 hz2 c0;go_upto_region 5 with fail;refine s8 (fun b=>b.cell? ⟨C,10,U8⟩=Ts (Tm va P vc)) 20 Pg hcell (fun G=>?_);clear hcell;refine ZQ (i:=0) (v:=?_) rfl Pg Pg (fun _ _ _ h=>h) _ _ _ _ Pg Pg (WQ ⟨Q8,fun b hS=>?_⟩) G ?_;rotate_left
      .exact TV
      refine ZQ (i:=1) (v:=?_) rfl Pg Pg (fun _ _ _ h=>h) _ _ _ _ Pg Pg (WQ ⟨Q8,fun b hS=>?_⟩) G ?_;rotate_left
      .exact TV
      refine ZQ (i:=2) (v:=?_) rfl Pg Pg (fun _ _ _ h=>h) _ _ _ _ Pg Pg (WQ ⟨Q8,fun b hS=>?_⟩) G ?_;rotate_left
      .exact TV
      refine ZQ (i:=4) (v:=?_) rfl Pg Pg (fun _ _ _ h=>h) _ _ _ _ Pg Pg (WQ ⟨Q8,fun b hS=>?_⟩) G ?_;rotate_left
      .exact TV
      refine ZQ (i:=6) (v:=?_) rfl Pg Pg (fun _ _ _ h=>h) _ _ _ _ Pg Pg (WQ ⟨Q8,fun b hS=>?_⟩) G ?_;rotate_left
      .exact TV
      refine ZQ (i:=8) (v:=?_) rfl Pg Pg (fun _ _ _ h=>h) _ _ _ _ Pg Pg (WQ ⟨Q8,fun b hS=>?_⟩) G ?_;rotate_left
      .exact TV
      refine ZQ (i:=11) (v:=?_) rfl Pg Pg (fun _ _ _ h=>h) _ _ _ _ Pg Pg (WQ ⟨Q8,fun b hS=>?_⟩) G ?_;rotate_left
      .exact TV
      refine ZQ (i:=13) (v:=?_) rfl Pg Pg (fun _ _ _ h=>h) _ _ _ _ Pg Pg (WQ ⟨Q8,fun b hS=>?_⟩) G ?_;rotate_left
      .exact TV
      have HK1:=Tn (m9 y U A3 wr.heap.size (U0.drew) HRR);cases F:cA y with
      |none=>
       have W:=Tn (HNO (by simp[jl,F]));rw[F]at HK1;clear F;refine ZE (i:=3) Pg rfl (fun K H=>?_);go_simp;exact P2 HK1 fun w1 T=>⟨rfl,bD.none W (HS0.fr.onto T (fun i hi e=>RG))⟩
      |some q=>
       obtain⟨log,k1⟩:=q;have X:=Tn F;rw[F]at HK1;clear F;refine ZE (i:=3) Pg rfl (fun K H=>?_);go_simp;refine HK1.out.mono ?_;rintro e u1⟨⟨rfl,hR1⟩,hF1⟩;refine P3 (HS0.fr3 hF1 (fun j Q=>Q5)) (HDR0.fr hF1 (fun e=>RL)) hR1 fun HS1 HDR1 HRR1=>have hsz1:U0.heap.size<=u1.heap.size:=hF1.size;H.out _ _ (fun _=>HS1.out.row.cell (i:=10) Pi) ?_;clear H K hR1 hF1 G HK1;have G:u1.cell? ⟨C,10,U8⟩=Ts (Tm va P vc):=HS1.out.row.cell (i:=10) Pi;have HK2:=Tn (m9 k1 U A3 wr.heap.size (u1) HRR1);cases E:cA k1 with
       |none=>
        have W:=Tn (HNO (by simp[jl,X.out,E]));rw[E]at HK2;clear E;refine ZE (i:=5) Pg rfl (fun K H=>?_);go_simp;exact P2 HK2 fun w1 T=>⟨rfl,bD.none W (HS1.fr.onto T (fun i hi e=>RG))⟩
       |some q=>
        obtain⟨at_,k2⟩:=q;have HX2:=Tn E;rw[E]at HK2;clear E;refine ZE (i:=5) Pg rfl (fun K H=>?_);go_simp;refine HK2.out.mono ?_;rintro e u2⟨⟨rfl,hR2⟩,ab⟩;refine P3 (HS1.fr3 ab (fun j Q=>Q5)) (HDR1.fr ab (fun e=>RL)) hR2 fun HS2 HDR2 HRR2=>have hsz2:U0.heap.size<=u2.heap.size:=VG hsz1 ab.size;H.out _ _ (fun _=>HS2.out.row.cell (i:=10) Pi) ?_;clear H K hR2 ab G HK2;have G:u2.cell? ⟨C,10,U8⟩=Ts (Tm va P vc):=HS2.out.row.cell (i:=10) Pi;have HK3:=Tn (mf k2 U A3 wr.heap.size (u2) HRR2);cases L:kT k2 with
        |none=>
         have W:=Tn (HNO (by simp[jl,X.out,HX2.out,L]));rw[L]at HK3;clear L;refine ZE (i:=7) Pg rfl (fun K H=>?_);go_simp;exact P2 HK3 fun w1 T=>⟨rfl,bD.none W (HS2.fr.onto T (fun i hi e=>RG))⟩
        |some q=>
         obtain⟨la,k3⟩:=q;have HX3:=Tn L;rw[L]at HK3;clear L;refine ZE (i:=7) Pg rfl (fun K H=>?_);go_simp;refine HK3.out.mono ?_;rintro e u3⟨⟨rfl,hb3,hR3⟩,hF3⟩;refine P3 (HS2.fr3 hF3 (fun j Q=>Q5)) (HDR2.fr hF3 (fun e=>RL)) hR3 fun HS3 HDR3 HRR3=>have hsz3:U0.heap.size<=u3.heap.size:=VG hsz2 hF3.size;H.out _ _ (fun _=>HS3.out.row.cell (i:=10) Pi) ?_;clear H K hR3 hF3 G HK3;have G:u3.cell? ⟨C,10,U8⟩=Ts (Tm va P vc):=HS3.out.row.cell (i:=10) Pi;have HK4:=Tn (mf k3 U A3 wr.heap.size (u3) HRR3);cases hx4:kT k3 with
         |none=>
          have W:=Tn (HNO (by simp[jl,X.out,HX2.out,HX3.out,hx4]));rw[hx4]at HK4;clear hx4;refine ZE (i:=9) Pg rfl (fun K H=>?_);go_simp;exact P2 HK4 fun w1 T=>⟨rfl,bD.none W (HS3.fr.onto T (fun i hi e=>RG))⟩
         |some q=>
          obtain⟨lb,k4⟩:=q;have HX4:=Tn hx4;rw[hx4]at HK4;clear hx4;refine ZE (i:=9) Pg rfl (fun K H=>?_);go_simp;refine HK4.out.mono ?_;rintro e u4⟨⟨rfl,hb4,hR4⟩,Y⟩;refine P3 (HS3.fr3 Y (fun j Q=>Q5)) (HDR3.fr Y (fun e=>RL)) hR4 fun HS4 HDR4 HRR4=>have hsz4:U0.heap.size<=u4.heap.size:=VG hsz3 Y.size;H.out _ _ (fun _=>HS4.out.row.cell (i:=10) Pi) ?_;clear H K hR4 Y G HK4;have G:u4.cell? ⟨C,10,U8⟩=Ts (Tm va P vc):=HS4.out.row.cell (i:=10) Pi;refine ZQ (i:=10) (v:=?_) rfl Pg Pg (fun _ _ _ h=>h) _ _ _ _ Pg Pg (WQ ⟨Q8,fun b hS=>?_⟩) G ?_;rotate_left
          .exact TV
          have HK5:=Tn (mf k4 U A3 wr.heap.size (u4) HRR4);cases hx5:kT k4 with
          |none=>
           have W:=Tn (HNO (by simp[jl,X.out,HX2.out,HX3.out,HX4.out,hx5]));rw[hx5]at HK5;clear hx5;refine ZE (i:=12) Pg rfl (fun K H=>?_);go_simp;exact P2 HK5 fun w1 T=>⟨rfl,bD.none W (HS4.fr.onto T (fun i hi e=>RG))⟩
          |some q=>
           obtain⟨ge,k5⟩:=q;have HX5:=Tn hx5;rw[hx5]at HK5;clear hx5;refine ZE (i:=12) Pg rfl (fun K H=>?_);go_simp;refine HK5.out.mono ?_;rintro e u5⟨⟨rfl,hb5,hR5⟩,hF5⟩;refine P3 (HS4.fr3 hF5 (fun j Q=>Q5)) (HDR4.fr hF5 (fun e=>RL)) hR5 fun HS5 HDR5 HRR5=>have hsz5:U0.heap.size<=u5.heap.size:=VG hsz4 hF5.size;H.out _ _ (fun _=>HS5.out.row.cell (i:=10) Pi) ?_;clear H K hR5 hF5 G HK5;have G:u5.cell? ⟨C,10,U8⟩=Ts (Tm va P vc):=HS5.out.row.cell (i:=10) Pi;have HK6:=Tn (mf k5 U A3 wr.heap.size (u5) HRR5);cases hx6:kT k5 with
           |none=>
            have W:=Tn (HNO (by simp[jl,X.out,HX2.out,HX3.out,HX4.out,HX5.out,hx6]));rw[hx6]at HK6;clear hx6;refine ZE (i:=14) Pg rfl (fun K H=>?_);go_simp;exact P2 HK6 fun w1 T=>⟨rfl,bD.none W (HS5.fr.onto T (fun i hi e=>RG))⟩
           |some q=>
            obtain⟨gs,k6⟩:=q;have HX6:=Tn hx6;rw[hx6]at HK6;clear hx6;refine ZE (i:=14) Pg rfl (fun K H=>?_);go_simp;refine HK6.out.mono ?_;rintro e u6⟨⟨rfl,hb6,hR6⟩,hF6⟩;refine P3 (HS5.fr3 hF6 (fun j Q=>Q5)) (HDR5.fr hF6 (fun e=>RL)) hR6 fun HS6 HDR6 HRR6=>have hsz6:U0.heap.size<=u6.heap.size:=VG hsz5 hF6.size;H.out _ _ (fun _=>HS6.out.row.cell (i:=10) Pi) ?_;clear H K hR6 hF6 G HK6;have G:u6.cell? ⟨C,10,U8⟩=Ts (Tm va P vc):=HS6.out.row.cell (i:=10) Pi;refine ZQ (i:=15) (v:=?_) rfl Pg Pg (fun _ _ _ h=>h) _ _ _ _ Pg Pg (WQ ⟨Q8,fun b hS=>?_⟩) G ?_;rotate_left
            .exact TV
            refine ZQ (i:=16) (v:=?_) rfl Pg Pg (fun _ _ _ h=>h) _ _ _ _ Pg Pg (WQ ⟨Q8,fun b hS=>?_⟩) G ?_;rotate_left
            .exact TV
            refine ZE (i:=17) Pg rfl (fun K H=>?_);go_simp;refine H.out _ _ (fun _=>ae G (af P0 _)) ?_;clear H K;have hi:=HI.out;have hz0:=HZ0.out;have hz1:=HZ1.out;have hz2:=HZ2.out;have HOW:Hid (u6.ownsRow B 101 6 (Tm va P vc) P (ps.flatMap kO)):=Tn (by have:=HS6.out.own;rw[HP.out]at this;exact this);have ho6:B<=u6.heap.size:=HS6.out.o6;refine ZE (i:=18) Pg rfl (fun K H=>?_);refine step_append_lies _ rfl _ _ _ rfl B 101 i0 _ 6 48 underlying93 hi hz0 hz1 hz2 rfl Pi (Tm va P vc) P (ps.flatMap kO) rfl (HOW.alloc _) ⟨u6.heap.size,0,U8⟩ 1 1 [Ti Tl log,Ti Tl at_,ag la,ag lb,ag ge,ag gs] rfl rfl (cQ _ _ _) Pu Pi Pr Ph Q9 _ rfl ?_;intro g3 cap3 Z hown hgrow hat R;clear hi hz0 hz1 hz2;have hsn:=HS6.out.snoc (p:=⟨log,at_,(la,lb),⟨ge,gs⟩⟩) HP hown hgrow;have HSN:=Tn hsn;have hFg:Fr (fun k=>Vt (Tm va P vc)=Ts k) u6 Z:=(ZD _ u6 _).trans ((ZG hgrow).mono fun _ _ e=>e);have HFG:=Tn hFg;have hrowZ:=HS6.out.row.fr hFg (fun e=>by have:=bE HOW C e;omega);have hHeld2:Z.cell? ⟨C,10,U8⟩=Ts (Tm va P vc):=hrowZ.cell (i:=10) Pi;have gz:=hrowZ.free 10;refine H.out _ _ (fun _=>hHeld2) ?_;clear H K hsn hFg hrowZ hown hgrow hat R G;refine ZE (i:=19) Pg rfl (fun K H=>?_);go_simp;refine H.out _ _ (fun _=>hHeld2) ?_;clear H K;refine ZE (i:=20) Pg rfl (fun K H=>?_);go_simp;go_wp2_with fail;refine H.out _ _ (fun h=>absurd rfl h) ?_;clear H K hHeld2 gz;refine bj.done Pg ?_ _;have hFC:=Uz (S:=fun k=>k=C) Z ⟨C,10,U8⟩ (Tm (Ts ⟨g3,0,U8⟩) (P+1) cap3) rfl;refine P4 ((HRR6.fr HFG (fun k o=>by have h1:=HOB.out k o;have h2:=bE HOW k o;exact .inl ⟨Ph,h1⟩)).fr hFC (fun k o=>by have m:k=C:=o;exact .inl ⟨Ph,Ph⟩)) ((HDR6.fr HFG (fun e=>by have:=bE HOW D e;omega)).fr hFC (fun e=>by have m:D=C:=e;omega)) fun HR7 HDR7=>?_;clear hFC;go_wp2_with fail;refine(zX k6 U _ ⟨_,_,HR7⟩).mono ?_;cases k6 with
            |cons y0 l0'=>
             have W:=Tn (HNO S3);rintro e w1⟨rfl,he⟩;rw[show e=dK from he];unfold dK;go_wp2;exact⟨rfl,bD.none W HSN.out.fr⟩
            |nil=>
             have HPR':Hid (jl y=Ts ⟨log,at_,(la,lb),⟨ge,gs⟩⟩):=Tn S3;rintro e w1⟨hw1,he⟩;subst hw1;rw[show e=UO (UW #[])from he];clear he;go_wp2;go_roundw
             case rel=>
              refine⟨_,ps++[⟨log,at_,(la,lb),⟨ge,gs⟩⟩],rest,HSN.out,HDR7,?_,by rw[Uo,WJ,HP.out];omega,?_⟩
              .rw[HPC.out,HPR'.out];cases dF rest<;>simp
              intro p hp;rcases WD.1 hp with hp|hp
              .exact HPN.out p hp
              rw[VP]at hp;rw[hp];exact Ev HPR'
             have m1:=mv.boxN ⟨_,_,HSN.out.rd2⟩;have m2:=mv.boxN ⟨_,_,u.rd2⟩;rw[m1,m2];simp
def adZ(t)(b:au)(l:List aQ)(x w)(H:aU w)(E:bK w (.mk t b l) x)(z:bi (.mk t b l)):VB UB 163 #[bw x] w (bD (fun _=>False) (bO (.mk t b l)) w fun k e M=>∃rb,e=UO (UK (Ts ⟨rb,0,U8⟩))/\w.heap.size<=rb/\mv M rb k):=by
 have L:=Tn H;have A:=fun(W:UN)(g:aq w W)=>wP t b l x w W g (H.ext g) E z;have j:=Tn A;have r:b8 l/\l.length<=1000000:=by rw[bi]at z;exact⟨z.2.2,z.2.1⟩
 have y:=Tn r;obtain⟨o,ba,bl,bc,la,ll,lc⟩:=x;have F:o=t:=by rw[bK]at E;exact E.1
 subst F;unfold bw at j⊢;simp only at j⊢;refine P1 w.heap.size fun D C=>P1 (w.alloc (Tq #[Ti Tl o,Tm ba bl bc,Tm la ll lc] 245)) fun f d=>have B:=Tn (show aq w f from Pq);have z0:f.cell? ⟨D,0,U8⟩=Ts (Ti Tl o):=Pk;have K:f.cell? ⟨D,1,U8⟩=Ts (Tm ba bl bc):=Pk;have N:f.cell? ⟨D,2,U8⟩=Ts (Tm la ll lc):=Pk;?_;go_enter func163,ntmps163;go_upto_region 1 with fail;try rw[d]
 try rw[C]
 go_wp2_with fail;refine(j f B).mono ?_;rintro e S⟨u,k,rfl,q,J⟩;refine P4 (aa B q) q.size fun s G=>?_;rcases J with⟨h1,rfl,rfl⟩|⟨h1,c,rfl,rfl⟩|⟨h1,c,X,rfl⟩
 .have p:=Tn (rq o b l (.inl h1));exact Tk
 .have p:=Tn (rq o b l (.inr c));exact Tk
 have p:=Tn (zi o b l h1 c);obtain⟨P,m,R,rfl⟩:∃la m k,u=Tm la m k:=Rk;have O:=Tn X;go_wp2_with fail;refine(fV _).mono ?_;rintro e I⟨rfl,rfl⟩;go_wp2;go_ret;refine bD.some p ⟨_,rfl,s.size,_,_,fp.new s L O ?_ y.1 y.2⟩ (Uh (af s _));exact G.out
def aiR(s:au)(w:UN)(e:Xo)(b:UN):Prop:=∃u n k,e=UO (UW #[u,Ti Tl n,Ti Tl k])/\aq w b/\match dh 8 s with
 | .error x=>u=iy/\n=0/\k=x
 | .ok (y,rest)=>k=0/\n=(s.length:Int)-rest.length/\∃x,u=bw x/\bK b y x
def OF(s:au)(v w)(H:aU w)(hv:aJ w v s)(hl:s.length<=1000000000):VB UB 160 #[v,Ti Tl 0] w (aiR s w):=by
 obtain⟨a,C,rfl,hnC,hCm,hb⟩:=hv;have HGA:=Tn (acK 8 Pi);refine P1 w.heap.size fun D hD=>P1 (w.alloc (Tq #[Ti Tl 0,zz,zz] 245)) fun f d=>have B:=Tn (show aq w f from Pq);have Z:Hid (f.heap[D]?=Ts (Tq #[Ti Tl 0,zz,zz] 245 (0,0))):=Tn (PP d hD);have T:w.heap.size<=D:=Ph;have HS0:Hid (f.heap.size=D+1):=Tn (by rw[<-d,Ud,hD]);have HG:=Tn (HGA s _ w f (H.ext B) ⟨_,_,rfl,hnC,hCm,hb⟩ B hl);P1 s.length fun N hN=>have HN:=Tn hN;?_;rw[hN]at hl hnC HG⊢;clear hN;go_enter func160,ntmps160;go_upto_region 1 with fail;try rw[d]
 try rw[hD]
 clear d;go_wp2_with fail;refine HG.out.mono ?_;rintro e t⟨u,v2,k,rfl,q,F⟩;refine P4 (aa B q) ((q.block D (UE.1 Z).1).trans Z) fun HE1 Q=>?_;cases S:dh 8 s with
 |error x=>
  rw[S]at F;obtain⟨X,rfl,rfl⟩:=F;obtain rfl:u=UT #[Ti Tl 0,zz,zz]:=X;have hk0:(k !=0)=true:=by rcases rB S with rfl|rfl<;>rfl
  have V:=Tn S;have j:=bx Q T HE1 (Ti Tl 0) (zz) (zz);refine PF t D (Ti Tl 0) (zz) (zz) fun z A=>?_;rw[A]at j;refine P4 j A fun r U=>have b:=Q.out;PK b fun e0 am e2=>PL b fun g0 g1 g2=>?_;clear A;go_upto_region 4 with fail;rw[U.out];have l:=bx r.1 T r.2 (Ti Tl 0) (zz) (zz);refine PF z D (Ti Tl 0) (zz) (zz) fun P E=>?_;rw[E]at l;refine P4 l E fun m R=>have g:=r.out.1;PK g fun e0 am e2=>PL g fun g0 g1 g2=>?_;clear E;go_wp2_with fail;rw[R.out];refine PK m.1 fun q0 q1 q2=>VC (v:=UW #[iy,Ti Tl 0,Ti Tl k]) (by simp[iy,Vo,results160,go_sem,q0,q1,q2]) rfl ⟨_,_,_,rfl,m.2,?_⟩;rw[V.out];exact⟨rfl,rfl,rfl⟩
 |ok p=>
  obtain⟨y,rest⟩:=p;rw[S]at F;obtain⟨rfl,⟨⟨W,I,L,G,J,K,O⟩,rfl,Y⟩,hbv⟩:=F;obtain⟨ra,rc,rfl,_,_,_⟩:=hbv;refine P4 S Y fun V HIN=>P1 rest.length fun M hM=>have HM:=Tn hM;?_;rw[hM];have hML:M<=N:=by have:=pz S;rw[hM,HN.out]at this;omega
  clear hM;unfold bw;simp only;have j:=bx Q T HE1 (Ti Tl W) (Tm I L G) (Tm J K O);refine PF t D (Ti Tl W) (Tm I L G) (Tm J K O) fun z A=>?_;rw[A]at j;refine P4 j A fun r U=>have b:=Q.out;PK b fun e0 am e2=>PL b fun g0 g1 g2=>?_;clear A;go_upto_region 4 with fail;rw[U.out];have l:=bx r.1 T r.2 (Ti Tl W) (Tm I L G) (Tm J K O);refine PF z D (Ti Tl W) (Tm I L G) (Tm J K O) fun P E=>?_;rw[E]at l;refine P4 l E fun m R=>have g:=r.out.1;PK g fun e0 am e2=>PL g fun g0 g1 g2=>?_;clear E;go_wp2_with fail;rw[R.out];refine PK m.1 fun q0 q1 q2=>VC (v:=UW #[UT #[Ti Tl W,Tm I L G,Tm J K O],Ti Tl ((N:Int)-M),Ti Tl 0]) (by simp[Vo,results160,go_sem,q0,q1,q2]) rfl ⟨_,_,_,rfl,m.2,?_⟩;rw[V.out];refine⟨rfl,by rw[HN.out,HM.out],⟨W,I,L,G,J,K,O⟩,rfl,?_⟩;refine HIN.out _ fun k o=>have h1:=o.1;have c:=HS0.out;have zs:¬k=D:=Ph;?_;rw[<-R.out,Below.heap_setCell _ _ _ _ zs,Below.heap_setCell _ _ _ _ zs,Below.heap_setCell _ _ _ _ zs,<-U.out,Below.heap_setCell _ _ _ _ zs,Below.heap_setCell _ _ _ _ zs,Below.heap_setCell _ _ _ _ zs]
def bH(w:UN)(g cs):Fr (fun k=>k=g) w (w.setRow g cs):=⟨rfl,rfl,rfl,by rw[size_setRow];exact UY _,fun _ _ z=>setRow_other _ _ _ _ z⟩
def iL{b}{A:Array UV}(h:aS w b t f n)(hn:A.size=n):aS (w.setRow b A) b t (fun i=>A.getD i VM) n:=by
 unfold aS;rw[setRow_heap w b _ A t _ h,<-hn,mH]
def L0(f g:Nat)(w):
  CallsD UB 161 #[UK (Ts ⟨f,0,U8⟩),UK (Ts ⟨g,0,U8⟩)] .returning w fun e d b=>e=UO (UW #[])/\d= .returning/\b=w:=by
 refine callsD_of_wpS func161 rfl fun c cs X=>?_;apply wpS_seq;apply wpS_region;simp[wpOpsS,go_sem,recoverD,X,ntmps161,Exit.thenS];refine wpS_of_wp ?_;go_wp2_with fail;cases c;simp_all[bodyPostS,Vo,results161]
def Mr(d)(f:Nat->UV)(ev:UV)(j:List PanicEntry)(w)(h1:aS w d 97 f 13)(c:VX w (d+1) 34 ev):
  CallsD UB 161 #[UK (Ts ⟨d,0,U8⟩),UK (Ts ⟨d+1,0,U8⟩)] (.panicking ({v:= .iface 262 (UT #[]),recovered:=false}::j)) w fun e C p=>e=UO (UW #[])/\
   C= .panicking ({v:= .iface 262 (UT #[]),recovered:=true}::j)/\aS p d 97 oL 13/\VX p (d+1) 34 (Ti Tl 71)/\Fr (fun b=>b=d\/b=d+1) w p:=by
 refine callsD_of_wpS func161 rfl fun H cs X=>?_;apply wpS_seq;apply wpS_region;simp[wpOpsS,go_sem,recoverD,X,ntmps161,Exit.thenS];refine wpS_of_wp ?_;refine Code.wp_mono (Q:=fun e z p=>e=Exit.normal/\z.defers=[]/\aS p d 97 oL 13/\VX p (d+1) 34 (Ti Tl 71)/\Fr (fun b=>b=d\/b=d+1) w p) ?_ ?_
 .rintro e z p⟨rfl,y,u⟩;simp_all[bodyPostS,Vo,results161]
 simp only[Array.replicate_succ,Array.replicate_zero,List.push_toArray,List.append_toArray,Vd,Vu,PU];refine P1 (w.setRow d #[Ti Tl 0,UH ⟨#[]⟩,UH ⟨#[]⟩,Ti Tt 0,zz,Ti Tl 0,Ti Tl 0,U1 false,Ti Tl 0,zz,zz,Ti Tt 0,Ti Tt 0]) fun r l=>?_;have q:Fr (fun k=>k=d) w r:=by rw[<-l];exact bH w d _
 have g:aS r d 97 oL 13:=by rw[<-l];exact iL h1 (A:=#[Ti Tl 0,UH ⟨#[]⟩,UH ⟨#[]⟩,Ti Tt 0,zz,Ti Tl 0,Ti Tl 0,U1 false,Ti Tl 0,zz,zz,Ti Tt 0,Ti Tt 0]) rfl
 have m:VX r (d+1) 34 ev:=q.boxed c (fun e=>by have G:d+1=d:=e;omega);have D:=Tn h1;have c1:=m.cell;have F:=m.frozen;refine P1 (r.setCell ⟨d+1,0,U8⟩ (Ti Tl 71)) fun V t=>?_;have o:aS V d 97 oL 13/\VX V (d+1) 34 (Ti Tl 71)/\Fr (fun b=>b=d\/b=d+1) w V:=by
  rw[<-t];exact⟨g.other Ph 0 _,ZF _ m,(q.mono fun _ _ e=> .inl e).trans (Uz _ ⟨d+1,0,U8⟩ _ (.inr rfl))⟩
 refine P3 o t l fun s B x=>have E:∀W,(Instr.typeAssert (.iface 262 (UT #[])) 20 262 true).run UB W= .ok (UW #[UT #[],U1 true]) W:=fun _=>Pg;?_;clear q o t l;go_upto_region 5 with fail;iterate 4 (go_step)
 refine WS rfl _ _ _ rfl d #[Ti Tl 0,UH ⟨#[]⟩,UH ⟨#[]⟩,Ti Tt 0,zz,Ti Tl 0,Ti Tl 0,U1 false,Ti Tl 0,zz,zz,Ti Tt 0,Ti Tt 0] rfl rfl 97 (fK f 13) D Pg TC Pu ?_;rw[x.out];go_wp2_with fail;rw[B.out];exact s.out
def NG(x y b o:Nat)(w:UN)(L:w.cell? ⟨b,o,U8⟩=Ts (ag x))(h1:w.cell? ⟨b,o+1,U8⟩=Ts (ag y)):VB UB 282 #[Tm (Ts ⟨b,o,U8⟩) 2 2] w fun e c=>e=UO (ag (max x y))/\c=w:=by
 go_enter func282,ntmps282;go_wp2;go_loopw [3,4] (fun m i wr=>((m=ag x/\i=Ti Tl 1)\/(m=ag (max x y)/\i=Ti Tl 2))/\wr=w) (fun _ i _=>2-(VS i).toNat)
 case atStart=>exact⟨.inl ⟨rfl,rfl⟩,rfl⟩
 obtain⟨⟨rfl,rfl⟩|⟨rfl,rfl⟩,rfl⟩:=hrel
 .go_wp2;go_roundw
  case rel=>exact⟨.inr ⟨by show Ti Tt _=Ti Tt _;congr 1;omega,Pm⟩,Pm⟩
  case measure=>simp[VS]
 exact Tr
def xI(p)(w:UN):VB UB 241 #[qh p] w (bM (U1 (cR p)) w):=by
 obtain⟨log,at_,⟨x,y⟩,g⟩:=p;have o:=Tn (tG g);obtain⟨e,s⟩:=g;unfold qh;dsimp only;refine P1 w.heap.size fun D C=>P1 (w.alloc (Tq #[Ti Tl log,Ti Tl at_,ag x,ag y,ag e,ag s] 101)) fun f d=>have B:=Tn (show aq w f from Pq);have z0:f.cell? ⟨D,0,U8⟩=Ts (Ti Tl log):=Pk;have A:f.cell? ⟨D,1,U8⟩=Ts (Ti Tl at_):=Pk;have E:f.cell? ⟨D,2,U8⟩=Ts (ag x):=Pk;have z3:f.cell? ⟨D,3,U8⟩=Ts (ag y):=Pk;have z4:f.cell? ⟨D,4,U8⟩=Ts (ag e):=Pk;have z5:f.cell? ⟨D,5,U8⟩=Ts (ag s):=Pk;P9 z0 A E z3 z4 z5 fun t m u q z r=>?_;unfold agC at o;dsimp only at o;clear z0 A E z3 z4 z5;go_enter func241,ntmps241;go_upto_region 1 with(fail);try rw[d]
 try rw[C]
 clear d C;refine aG (fun b=>aq f b) P0 ?_;repeat
  (first|refine az rfl rfl rfl rfl ?_|refine aF rfl rfl rfl rfl ?_|refine aw rfl ?_|refine aj rfl rfl rfl rfl rfl ?_|((first|refine av (v:=?_) rfl rfl (fun hb b l=>?_) ?_|refine ar (v:=?_) rfl rfl rfl (fun H hb b l=>?_) ?_|refine ax (v:=?_) rfl (fun b l=>?_) ?_);rotate_left;(focus(have f0:=ae t l;have J:=ae m l;have G:=ae u l;have I:=ae q l;have f4:=ae z l;have K:=ae r l;unfold ak;go_simp;first|exact aD l|((go_at_call 242;refine(Di _ _).mono ?_;rintro e j⟨rfl,rfl⟩;exact aH l))|((go_at_call 282;refine(NG x y _ _ _ G I).mono ?_;rintro e j⟨rfl,rfl⟩;exact aH l))|((go_at_call 244;refine P2 (o _) fun j c=>?_;exact aH (aa l c)))))))
  simp only[Ua,P7]
 refine aA fun b F=>?_;go_wp2_with fail;go_ret;refine⟨lh ?_,aa B F⟩;unfold cR;dsimp only;have h1:decide (((max x y:Nat):Int)<2305843009213693951)=decide (max x y<iE):=by
  congr 1;apply propext;show((max x y:Nat):Int)<2305843009213693951↔max x y<2305843009213693951
  omega
 rw[<-h1];simp only[YS]
def JG(l:List au)(s:au):iI (l.map aL) (aL s)=l.contains s:=by
 unfold iI;induction l with
 |nil=>rfl
 |cons x l b=>
  rw[WI,List.any_cons,List.contains_cons,b];congr 1;show(x==s)=(s==x)
  rw[BEq.comm]
def Da{right:au->Bool}{l:List au}{s:au}(h:l[k]?=Ts s):fU right (l.take k) (l.drop k)=(!(l.take k).contains s&&(right s&&fU right (l.take (k+1)) (l.drop (k+1)))):=by
 obtain⟨o,rfl⟩:=UU.1 h;rw[WT o,fU,aW h]
def yG(F)(right:au->Bool)(l:List au)(a n c)(g most:Nat)(w)(hn:l.length=n)(hnc:n<=c)(X:c<=VL)(hl:js w a (l.map aL))(eg:∀args w,(Wu F args).run UB w= .ok (.enter F args) w)(P:∀(s:au)(W:UN),(aL s).size<=9223372036854775807->aq w W->VB UB F #[UH (aL s)] W (bM (Ti Tl (rP 110 (right s))) W)):
  VB UB 245 #[Tm a n c,Ti Tl (g:Int),Ti Tl (most:Int),.func (.func F) #[] #[]] w (bM (U1 (oQ right l g most)) w):=by
 unfold VL at X;refine P3 hn hl P fun V HL Z=>have E:vp UB 9 UH (fun s:ByteArray=>s.size<=VL):=uL underlying9;have hmm:= @run_makeMap UB;?_;go_enter func245,ntmps245;go_wp2_with fail;refine P1 (w.alloc (Obj.map #[] 0)) fun f d=>have D:aq w f:=Pq;?_;have m0:zR f w.heap.size []:=by rw[<-d];exact cW.made UB 9 UH (fun s:ByteArray=>s.size<=VL) w
 rw[d];refine P4 D m0 fun B M0=>have J:f.heap.size=w.heap.size+1:=Zbf;?_;go_loopw [15] (fun i wr=>∃(k:Nat)(m:List (ByteArray×UV)),k<=n/\i=Ti Tl k/\fU right [] l=fU right (l.take k) (l.drop k)/\Fr (fun b=>b=w.heap.size) f wr/\zR wr w.heap.size m/\K8 m ((l.map aL).take k)) (fun i _=>n-(VS i).toNat)
 case atStart=>exact⟨0,[],VF _,rfl,rfl,Z5 _ _,M0,fun _=>rfl⟩
 obtain⟨k,m,o,rfl,x,P,K,hs⟩:=hrel;refine PC x K hs P (B.trans (P.below B.size (fun k o=>Ph))) fun HP HM HS HF t=>?_;by_cases R:k<n
 .obtain⟨p,x⟩:=ay V R;obtain⟨b,off,rfl,d0,A⟩:=(HL.ext t) k (aL p) (by rw[VU,x];rfl);rw[XT]at d0;have HT:=Tn (Da (right:=right) x);have M:(l.map aL)[k]?=Ts (aL p):=by rw[VU,x];rfl
  refine P4 (aW M) A fun G y=>have C:(aL p).size<=9223372036854775807:=A;have hkc:k<=c:=Ph;have u:Hid (iI ((l.map aL).take k) (aL p)=(l.take k).contains p):=Tn (by rw[<-List.map_take];exact JG (l.take k) p);have Q:=Tn (Z p);P1 (aL p) fun S j=>?_;rw[j]at d0 y C u Q G;go_upto_region 5 with fail;refine aG (fun r=>aq wr r) P0 ?_;repeat
   (first|refine az rfl rfl rfl rfl ?_|refine aF rfl rfl rfl rfl ?_|refine aw rfl ?_|refine aj rfl rfl rfl rfl rfl ?_|((first|refine av (v:=?_) rfl rfl (fun hb r j=>?_) ?_|refine ar (v:=?_) rfl rfl rfl (fun hb1 hb r j=>?_) ?_|refine ax (v:=?_) rfl (fun r j=>?_) ?_);rotate_left;(focus(have elk:=((HM.ext j).run_lookup (mt:=240) E underlying240 (z:=U1 false) Pg (k:=S) y).trans (congrArg (fun v=>Result.ok v r) (HS S));unfold ak;go_simp;first|exact aD j|(refine(Q _ C (aa t j)).mono ?_;rintro e w''⟨rfl,h2⟩;exact aH (aa j h2))))))
   simp only[Ua,P7]
  refine aA fun r q=>have O:Hid ((rP 110 (right p) !=0)= !right p):=Tn (by cases right p<;>rfl);?_;cases N:(iI ((l.map aL).take k) S||(rP 110 (right p) !=0))
  .have HQ:=Tn (show fU right [] l=fU right (l.take (k+1)) (l.drop (k+1)) by
    rw[O.out,u.out]at N;simp only[YT,YD]at N
    rw[HP.out,HT.out,N.1,N.2];rfl)
   refine P4 (HM.ext q) (HF.trans (Uh q)) fun HM' Y=>?_;go_wp2_with (at_mapUpdate;refine cK rfl _ _ _ 240 rfl E underlying240 rfl HM'.out S _ rfl rfl y.out ?_;intro w1 H L U;refine P4 H L fun QM QF=>?_)
   go_roundw
   case rel=>exact⟨k+1,_,Ph,Pt,HQ,Y.trans QF,QM,by rw[G.out];exact HS.out.put S⟩
   case measure=>simp[VS];omega
  have HQ:=Tn (show oQ right l g most=false by
   have:fU right [] l=false:=by
    rw[HP.out,HT.out];rw[O.out,u.out]at N;exact Tx
   unfold oQ;rw[this];rfl)
  go_wp2_with fail;all_goals
   go_ret
   exact⟨lh HQ.symm,aa t q⟩
 obtain rfl:k=n:=by omega
 have I:fU right [] l=true:=by
  rw[HP.out,Xj Zfu];rfl
 have T:=Tn (show oQ right l g most=(decide (g<=k)&&decide (k<=most)) by
  unfold oQ;rw[I,V.out,Wo])
 go_upto_region 9 with fail;refine aG (fun r=>r=wr) rfl ?_;repeat
  (first|refine az rfl rfl rfl rfl ?_|refine aF rfl rfl rfl rfl ?_|refine aw rfl ?_|refine aj rfl rfl rfl rfl rfl ?_|((first|refine av (v:=?_) rfl rfl (fun hb r j=>?_) ?_|refine ar (v:=?_) rfl rfl rfl (fun hb1 hb r j=>?_) ?_|refine ax (v:=?_) rfl (fun r j=>?_) ?_);rotate_left;(focus(subst j;unfold ak;go_simp;first|exact aD rfl))))
  simp only[Ua,P7]
 refine aA fun r q=>?_;subst q;go_wp2;go_ret;exact⟨lh T.symm,t⟩
def FF{last}{l:List gW}{p}(h:l[k]?=Ts p):gY last (l.drop k)=(cR p&&(decide (last<p.log)&&gY p.log (l.drop (k+1)))):=by
 obtain⟨o,rfl⟩:=UU.1 h;rw[WT o,gY]
def Mx(c:ff):Bool:= !dZ c.serial||(!dZ c.from_||(!dZ c.until_||decide (c.until_<=c.from_)))
def adH(c:ff):Bool:= !oz c.issuer||(c.key==0||(decide (Qp<=c.key)||(decide (4<c.proms.length)|| !ik c.sig)))
def wX(c):dr c=(gY (-1) c.proms&&(if Mx c then false else if adH c then false else if c.ca then oz c.subject&&(c.names.isEmpty&&(decide (0<=c.depth)&&(decide (c.depth<=4)&&oQ (fun s=>(dy s).2.2) c.permit 0 8)))else
 c.subject.isEmpty&&(oQ gX c.names 1 8&&(c.depth==0&&c.permit.isEmpty)))):=rfl
def tN{α:Type}(l:List α):l.isEmpty=((l.length:Int)==0):=by
 cases l with
 |nil=>rfl
 |cons a l=>rw[Up];symm;simp;omega
def ac6{c:ff}(h:c.proms.length=k):adH c=(!oz c.issuer||((c.key:Int)==0)||decide ((2305843009213691579:Int)<=(c.key:Int))||decide ((4:Int)<(k:Int))|| !ik c.sig):=by
 unfold adH;rw[h];have h1:(c.key==0)=((c.key:Int)==0):=by rw[Bool.eq_iff_iff];simp
 have b:decide (Qp<=c.key)=decide ((2305843009213691579:Int)<=(c.key:Int)):=by
  congr 1;apply propext;show 2305843009213691579<=c.key↔_
  omega
 have A:decide (4<k)=decide ((4:Int)<(k:Int)):=QC;rw[h1,b,A];simp only[Bool.or_assoc]
def Ds(c x w)(hC:lF w c x)(hN:kQ c):VB UB 202 #[fx c x] w (bM (U1 (dr c)) w):=by
 refine P4 hC hN fun HC HN=>P1 w.heap.size fun D C=>P1 (w.alloc (Tq #[Ti Tl c.serial,UH (aL c.issuer),UH (aL c.subject),ag c.key,Tm x.na c.names.length x.nc,Ti Tl c.from_,Ti Tl c.until_,U1 c.ca,Ti Tl c.depth,Tm x.pa c.permit.length x.pc,Tm x.ra c.proms.length x.rc,ag c.sig.e,ag c.sig.s] 97)) fun f d=>have B:=Tn (show aq w f from Pq);have ah:Hid (f.cell? ⟨D,0,U8⟩=Ts (Ti Tl c.serial)):=Tn Pk;have ab:Hid (f.cell? ⟨D,1,U8⟩=Ts (UH (aL c.issuer))):=Tn Pk;have Y:Hid (f.cell? ⟨D,2,U8⟩=Ts (UH (aL c.subject))):=Tn Pk;have X:Hid (f.cell? ⟨D,3,U8⟩=Ts (ag c.key)):=Tn Pk;have Z:Hid (f.cell? ⟨D,4,U8⟩=Ts (Tm x.na c.names.length x.nc)):=Tn Pk;have L:Hid (f.cell? ⟨D,5,U8⟩=Ts (Ti Tl c.from_)):=Tn Pk;have U:Hid (f.cell? ⟨D,6,U8⟩=Ts (Ti Tl c.until_)):=Tn Pk;have J:Hid (f.cell? ⟨D,7,U8⟩=Ts (U1 c.ca)):=Tn Pk;have ac:Hid (f.cell? ⟨D,8,U8⟩=Ts (Ti Tl c.depth)):=Tn Pk;have S:Hid (f.cell? ⟨D,9,U8⟩=Ts (Tm x.pa c.permit.length x.pc)):=Tn Pk;have t:Hid (f.cell? ⟨D,10,U8⟩=Ts (Tm x.ra c.proms.length x.rc)):=Tn Pk;have y:Hid (f.cell? ⟨D,11,U8⟩=Ts (ag c.sig.e)):=Tn Pk;have A:Hid (f.cell? ⟨D,12,U8⟩=Ts (ag c.sig.s)):=Tn Pk;have HPT:Hid (∀(s:au)(W:UN),(aL s).size<=9223372036854775807->VB UB 231 #[UH (aL s)] W (bM (Ti Tl (rP 110 (dy s).2.2)) W)):=Tn fun s W z=>tH (aL s) W z;have HCK:Hid (∀(s:au)(W:UN),(aL s).size<=9223372036854775807->VB UB 190 #[UH (aL s)] W (bM (Ti Tl (rP 110 (gX s))) W)):=Tn fun s W z=>zq (aL s) W z;have egp:∀args w,(Wu 231 args).run UB w= .ok (.enter 231 args) w:=Vv func231 Pg rfl;have egc:∀args w,(Wu 190 args).run UB w= .ok (.enter 190 args) w:=Vv func190 Pg rfl;P4 egp egc fun HEGP HEGC=>P1 c.proms.length fun n hn=>have HNN:=Tn hn;?_;have hnl:n<=1000000:=by rw[<-hn];exact hN.rl
 have hnc:n<=x.rc:=by rw[<-hn];exact hC.rl
 have r:=Tn (wX c);unfold fx;rw[hn]at t⊢;go_enter func202,ntmps202;go_upto_region 2 with fail;rw[hn]at d;try rw[d]
 try rw[C]
 have I:=t.out;go_wp2;go_loopw [9,3] (fun i last wr=>∃(k:Nat)(m:Int),k<=n/\i=Ti Tl k/\last=Ti Tl m/\gY (-1) c.proms=gY m (c.proms.drop k)/\aq f wr) (fun i _ _=>n-(VS i).toNat)
 case atStart=>exact⟨0,-1,VF _,rfl,rfl,rfl,P0⟩
 obtain⟨k,m,o,rfl,rfl,hp,g⟩:=hrel;refine P4 hp g fun HP ys=>?_;by_cases R:k<n
 .obtain⟨p,hp⟩:=ay HNN R;obtain⟨b,off,hb,f0,f1,f2,f3,f4,f5⟩:=(HC.proms.ext (aa B ys)) k p hp;refine P4 (FF (last:=m) hp) (xI p) fun HT HPR=>?_;obtain⟨log,at_,⟨y1,y2⟩,⟨ge,gs⟩⟩:=p;simp only at f0 f1 f2 f3 f4 f5;refine P1 wr.heap.size fun E u=>P1 (wr.alloc (Tq #[Ti Tl log,Ti Tl at_,ag y1,ag y2,ag ge,ag gs] 101)) fun V P=>have HEV:=Tn (show aq wr V by rw[<-P];exact af P0 _);have HY0:Hid (V.cell? ⟨E,0,U8⟩=Ts (Ti Tl log)):=Tn Vi;have HY1:Hid (V.cell? ⟨E,1,U8⟩=Ts (Ti Tl at_)):=Tn Vi;have HY2:Hid (V.cell? ⟨E,2,U8⟩=Ts (ag y1)):=Tn Vi;have HY3:Hid (V.cell? ⟨E,3,U8⟩=Ts (ag y2)):=Tn Vi;have HY4:Hid (V.cell? ⟨E,4,U8⟩=Ts (ag ge)):=Tn Vi;have HY5:Hid (V.cell? ⟨E,5,U8⟩=Ts (ag gs)):=Tn Vi;?_;unfold qh at HPR;dsimp only at HPR HT;rw[hb];go_upto_region 5 with fail;(try rw[P]);(try rw[u]);refine aG (fun j=>aq V j) P0 ?_;repeat
   (first|refine az rfl rfl rfl rfl ?_|refine aF rfl rfl rfl rfl ?_|refine aw rfl ?_|refine aj rfl rfl rfl rfl rfl ?_|((first|refine av (v:=?_) rfl rfl (fun hb j l=>?_) ?_|refine ar (v:=?_) rfl rfl rfl (fun M hb j l=>?_) ?_|refine ax (v:=?_) rfl (fun j l=>?_) ?_);rotate_left;(focus(have f0:=ae HY0 l;have f1:=ae HY1 l;have f2:=ae HY2 l;have f3:=ae HY3 l;have f4:=ae HY4 l;have f5:=ae HY5 l;unfold ak;go_simp;first|exact aD l|(refine(HPR _).mono ?_;rintro e G⟨rfl,K⟩;exact aH (aa l K))))))
   simp only[Ua,P7]
  refine aA fun j H=>?_;cases N:(!cR ⟨log,at_,(y1,y2),⟨ge,gs⟩⟩||decide (log<=m))
  .have HQ:=Tn (show gY (-1) c.proms=gY log (c.proms.drop (k+1)) by
    simp only[YT,YD,decide_eq_false_iff_not]at N
    rw[HP.out,HT.out,N.1,decide_eq_true (show m<log from Ph)];rfl)
   have y0:=ae HY0 H;have F:=Tn (aa ys (aa HEV H));go_wp2;go_roundw
   case rel=>exact⟨k+1,log,Ph,Pt,rfl,HQ,F⟩
   case measure=>simp[VS];omega
  have HQ:=Tn (show dr c=false by
   rw[r.out,HP.out,HT.out];simp only[WU,Wh,decide_eq_true_eq]at N;rcases N with h|h
   .rw[h];rfl
   rw[decide_eq_false (show¬m<log from Ph)];simp)
  have F:=Tn (aa ys (aa HEV H));go_wp2_with fail;all_goals
   go_ret
   exact⟨lh HQ.symm,aa B F⟩
 obtain rfl:k=n:=by omega
 have hpo:gY (-1) c.proms=true:=by rw[HP.out,Xj Zac];rfl
 rw[hpo,Wo]at r;go_upto_region 9 with fail;refine aG (fun j=>aq f j) ys ?_;repeat
  (first|refine az rfl rfl rfl rfl ?_|refine aF rfl rfl rfl rfl ?_|refine aw rfl ?_|refine aj rfl rfl rfl rfl rfl ?_|refine dS rfl rfl rfl rfl rfl ?_|((first|refine av (v:=?_) rfl rfl (fun hb j l=>?_) ?_|refine ar (v:=?_) rfl rfl rfl (fun M hb j l=>?_) ?_|refine ax (v:=?_) rfl (fun j l=>?_) ?_);rotate_left;(focus(have z0:=ae ah l;have z1:=ae ab l;have z2:=ae Y l;have z3:=ae X l;have z4:=ae Z l;have z5:=ae L l;have z6:=ae U l;have z7:=ae J l;have z8:=ae ac l;have z9:=ae S l;have I:=ae t l;have z11:=ae y l;have z12:=ae A l;unfold ak;go_simp;first|exact aD l|(refine(Di _ _).mono ?_;rintro e G⟨rfl,rfl⟩;exact aH l)))))
  simp only[Ua,P7]
 refine aA fun w1 q=>?_;cases T:(!dZ c.serial|| !dZ c.from_|| !dZ c.until_||decide (c.until_<=c.from_))with
 |true=>
  have HF0:Hid (dr c=false):=Tn (by rw[r.out,if_pos (show Mx c=true by unfold Mx;rw[<-T];simp only[Bool.or_assoc])]);go_wp2;go_ret;exact⟨lh HF0.symm,aa B q⟩
 |false=>
  rw[if_neg (show¬Mx c=true by unfold Mx;rw[<-Bool.or_assoc,<-Bool.or_assoc,T];decide)]at r;go_upto_region 11 with fail;refine aG (fun j=>aq f j) q ?_;repeat
   (first|refine az rfl rfl rfl rfl ?_|refine aF rfl rfl rfl rfl ?_|refine aw rfl ?_|refine aj rfl rfl rfl rfl rfl ?_|refine dS rfl rfl rfl rfl rfl ?_|((first|refine av (v:=?_) rfl rfl (fun hb j l=>?_) ?_|refine ar (v:=?_) rfl rfl rfl (fun M hb j l=>?_) ?_|refine ax (v:=?_) rfl (fun j l=>?_) ?_);rotate_left;(focus(have z0:=ae ah l;have z1:=ae ab l;have z2:=ae Y l;have z3:=ae X l;have z4:=ae Z l;have z5:=ae L l;have z6:=ae U l;have z7:=ae J l;have z8:=ae ac l;have z9:=ae S l;have I:=ae t l;have z11:=ae y l;have z12:=ae A l;unfold ak;go_simp;first|exact aD l|((go_at_call 243;refine(yz c.issuer _ (VG HN.iss Pi)).mono ?_;rintro e G⟨rfl,K⟩;exact aH (aa l K)))|((go_at_call 244;refine P2 (tG c.sig _) fun G K=>?_;exact aH (aa l K)))))))
   simp only[Ua,P7]
  refine aA fun w2 ad=>have HB2:=Tn (ac6 HNN);?_;cases Q:(!oz c.issuer||((c.key:Int)==0)||decide ((2305843009213691579:Int)<=(c.key:Int))||decide ((4:Int)<(k:Int))|| !ik c.sig)with
  |true=>
   have HF0:Hid (dr c=false):=Tn (by rw[r.out,HB2.out,Q];rfl);go_wp2;go_ret;exact⟨lh HF0.symm,aa B ad⟩
  |false=>
   rw[HB2.out,Q,if_neg Pi]at r;have z7:=ae J ad;cases O:c.ca with
   |true=>
    rw[O,if_pos rfl]at r;rw[O]at z7;go_upto_region 14 with fail;refine aG (fun j=>aq f j) ad ?_;repeat
     (first|refine az rfl rfl rfl rfl ?_|refine aF rfl rfl rfl rfl ?_|refine aw rfl ?_|refine aj rfl rfl rfl rfl rfl ?_|((first|refine av (v:=?_) rfl rfl (fun hb j l=>?_) ?_|refine ar (v:=?_) rfl rfl rfl (fun M hb j l=>?_) ?_|refine ax (v:=?_) rfl (fun j l=>?_) ?_);rotate_left;(focus(have z0:=ae ah l;have z1:=ae ab l;have z2:=ae Y l;have z3:=ae X l;have z4:=ae Z l;have z5:=ae L l;have z6:=ae U l;have z7:=ae J l;have z8:=ae ac l;have z9:=ae S l;have I:=ae t l;have z11:=ae y l;have z12:=ae A l;unfold ak;go_simp;first|exact aD l|((go_at_call 243;refine(yz c.subject _ (VG HN.sub Pi)).mono ?_;rintro e G⟨rfl,K⟩;exact aH (aa l K)))|((go_at_call 245;refine P2 (yG 231 (fun s=>(dy s).2.2) c.permit x.pa c.permit.length x.pc 0 8 _ rfl HC.out.pl HC.pm (HC.permit.ext (aa B l)) HEGP (fun s W z _=>HPT.out s W z)) fun G K=>?_;exact aH (aa l K)))))))
     simp only[Ua,P7]
    refine aA fun w3 hE3=>?_;go_wp2;go_ret;refine⟨lh ?_,aa B hE3⟩;rw[r.out,tN];simp only[YS]
   |false=>
    rw[O,if_neg Pi]at r;rw[O]at z7;go_upto_region 15 with fail;refine aG (fun j=>aq f j) ad ?_;repeat
     (first|refine az rfl rfl rfl rfl ?_|refine aF rfl rfl rfl rfl ?_|refine aw rfl ?_|refine aj rfl rfl rfl rfl rfl ?_|((first|refine av (v:=?_) rfl rfl (fun hb j l=>?_) ?_|refine ar (v:=?_) rfl rfl rfl (fun M hb j l=>?_) ?_|refine ax (v:=?_) rfl (fun j l=>?_) ?_);rotate_left;(focus(have z0:=ae ah l;have z1:=ae ab l;have z2:=ae Y l;have z3:=ae X l;have z4:=ae Z l;have z5:=ae L l;have z6:=ae U l;have z7:=ae J l;have z8:=ae ac l;have z9:=ae S l;have I:=ae t l;have z11:=ae y l;have z12:=ae A l;unfold ak;go_simp;first|exact aD l|((go_at_call 245;refine(yG 190 gX c.names x.na c.names.length x.nc 1 8 _ rfl HC.out.nl HC.nm (HC.names.ext (aa B l)) HEGC (fun s W z _=>HCK.out s W z)).mono ?_;rintro e G⟨rfl,K⟩;exact aH (aa l K)))))))
     simp only[Ua,P7]
    refine aA fun w3 hE3=>?_;go_wp2;go_ret;refine⟨lh ?_,aa B hE3⟩;rw[r.out,tN c.permit,Yb];simp only[YS];rfl
def mG{B}{l:Nat->Prop}{y:aQ}{x}{a b c:UV}(u:d.heap[D]?=Ts (Tq #[a,b,c] 245 (0,0)))(C:w.heap.size<=D)(g:aq w d)(j:jg l d y x)(f:∀k,l k->k≠D/\B<=k/\k<d.heap.size):
  let V:=((d.setCell ⟨D,0,U8⟩ (Ti Tl x.t)).setCell ⟨D,1,U8⟩ (Tm x.ba x.bl x.bc)).setCell ⟨D,2,U8⟩ (Tm x.la x.ll x.lc)
  V.heap[D]?=Ts (Tq #[Ti Tl x.t,Tm x.ba x.bl x.bc,Tm x.la x.ll x.lc] 245 (0,0))/\aq w V/\jg (ta B V.heap.size) V y x:=by
 intro V;have h:=bx u C g (Ti Tl x.t) (Tm x.ba x.bl x.bc) (Tm x.la x.ll x.lc);have m:V.heap.size=d.heap.size:=by simp[V,XY]
 refine⟨h.1,h.2,j.move (fun k o=>?_) (fun k o=>⟨(f k o).2.1,by rw[m];exact(f k o).2.2⟩)⟩;have zs:=(f k o).1;show(((d.setCell ⟨D,0,U8⟩ (Ti Tl x.t)).setCell ⟨D,1,U8⟩ (Tm x.ba x.bl x.bc)).setCell ⟨D,2,U8⟩ (Tm x.la x.ll x.lc)).heap[k]?=_
 rw[Below.heap_setCell _ _ _ _ zs,Below.heap_setCell _ _ _ _ zs,Below.heap_setCell _ _ _ _ zs]
def Mu(hn:n<9223372036854775808):eC (n:Int)=cS n:=by
 unfold eC;congr 1;omega
def kK(n)(w:UN)(hn:n<9223372036854775808):VB UB 150 #[ag n] w (gF (cS n) w):=by
 have L:=Tn (fun W=>mO (n:Int) W);rw[Mu hn]at L;refine P1 w.heap.size fun D C=>P1 (w.alloc (Tq #[Ti Tl 0,zz,zz] 245)) fun f d=>have G:=Tn (show aq w f from Pq);have z:Hid (f.heap[D]?=Ts (Tq #[Ti Tl 0,zz,zz] 245 (0,0))):=Tn (PP d C);have I:Hid (f.heap.size=D+1):=Tn Qx;have K:w.heap.size<=D:=Ph;?_;go_enter func150,ntmps150;go_upto_region 1 with fail;try rw[d]
 try rw[C]
 clear d;go_wp2_with fail;refine(L f).mono ?_;rintro e t⟨⟨F,l,r,j,m,p,u⟩,rfl,y,q⟩;refine P3 (aa G q) y ((q.block D (UE.1 z).1).trans z) fun s J E=>have g:=mG (B:=w.heap.size) (x:=⟨F,l,r,j,m,p,u⟩) E K s J (fun k o=>by have h1:=o.1;have c:=o.2;have A:=I.out;exact⟨Ph,Ph,c⟩);?_;dsimp only at g;refine PF t D (Ti Tl F) (Tm l r j) (Tm m p u) fun V H=>?_;rw[H]at g;refine P4 g H fun b N=>have M:=E.out;PK M fun Q am P=>PL M fun O g1 g2=>?_;clear H;unfold bw;simp only;go_wp2_with fail;rw[N.out];refine PK b.1 fun q0 q1 q2=>VC (v:=UT #[Ti Tl F,Tm l r j,Tm m p u]) (by simp[Vo,results150,go_sem,q0,q1,q2]) rfl ⟨⟨F,l,r,j,m,p,u⟩,rfl,b.2.2,b.2.1⟩
structure aeU(F:FuncId)(l:List au)(g:au->aQ)(w:UN):Prop where
 enters:∀args w,(Wu F args).run UB w= .ok (.enter F args) w
 does:∀s∈l,∀W,aq w W->VB UB F #[UH (aL s)] W (gF (g s) W)
def tF(F)(l:List au)(g:au->aQ)(a n c w)(cf:aeU F l g w)(hn:l.length=n)(hnc:n<=c)(hl:n<=1000000)(h:js w a (l.map aL)):
  VB UB 151 #[Tm a n c,.func (.func F) #[] #[]] w (gF (dO (l.map g)) w):=by
 obtain⟨i0,hi,U,X,Y⟩:=WN uG;refine PG hi U X Y hn h cf fun HI HZ0 HZ1 HZ2 HN H HF=>have eg:=cf.enters;?_;clear hn h cf hi U X Y;refine P1 w.heap.size fun D C=>P1 (w.alloc (Tq #[Ti Tl 0,zz,zz] 245)) fun f d=>have a2:=Tn (show aq w f from Pq);have a6:Hid (f.heap[D]?=Ts (Tq #[Ti Tl 0,zz,zz] 245 (0,0))):=Tn (PP d C);have bc:Hid (f.heap.size=D+1):=Tn Qx;have hDw:w.heap.size<=D:=Ph;have HD:=Tn C;?_;go_enter func151,ntmps151;go_upto_region 1 with(fail);try rw[d]
 try rw[C]
 clear d C;go_wp2_with fail;go_loopw [10,5] (fun i v wr=>∃(k:Nat)(acc:List (aQ×bU)),k<=n/\i=Ti Tl k/\acc.length=k/\kf (D+1) v wr acc/\acc.map (·.1)=(l.take k).map g/\aq f wr) (fun i _ _=>n-(VS i).toNat)
 case atStart=>exact⟨0,[],VF _,rfl,rfl,kf.nil _ _,rfl,P0⟩
 obtain⟨k,acc,o,rfl,a0,L,an,hE⟩:=hrel;refine P5 a0 L an hE fun W ac ab ys=>?_;obtain⟨ua,uc,rfl,a5,huc2,a4,bn,a7⟩:=L.done a0;refine P4 a4 a7 fun HUS HUI=>?_;have a8:D+1<=wr.heap.size:=by have:=hE.size;have:=bc.out;omega
 clear a0 L an hE a4 bn a7;by_cases R:k<n
 .obtain⟨s,z⟩:=ay HN R;obtain⟨b,off,hb,k0,_⟩:=(H.ext (aa a2 ys)) k (aL s) (by rw[VU,z];rfl);subst hb;rw[XT]at k0;have bo:=Tn (HF.does s (Uv z));have HWV:Hid (aq w wr):=Tn (aa a2 ys);have ad:Hid (aq wr wr):=Tn P0;have HTS:Hid ((l.take (k+1)).map g=(l.take k).map g++[g s]):=Tn Zas;clear z;go_upto_region 5 with(fail);iterate 3 (skip)
  go_wp2_with fail;refine(bo _ HWV).mono ?_;rintro e t⟨⟨Z,I,u,G,E,m,r⟩,rfl,P,q⟩;refine P4 P (aa ad q) fun a3 N=>have bp:Hid (wr.heap.size<=wr.heap.size):=Tn ad.out.size;have a1:=Tn (ac.ext N);have HO1:Hid (t.ownsRow (D+1) 245 3 (Tm ua k uc) k (bh acc)):=Tn (by have:=a1.out.own;rw[W.out]at this;exact this);have hb1:D+1<=t.heap.size:=VG a8 N.size;?_;clear P q;unfold bw;simp only;have hi:=HI.out;have U:=HZ0.out;have X:=HZ1.out;have Y:=HZ2.out
  go_wp2_with (
         at_builtin
         refine wpList_append_lies _ rfl _ _ 243 rfl (D+1) 245 i0 _ 3 56 underlying243 hi U X Y rfl Pi _ _ _ rfl (HO1.alloc _) ⟨t.heap.size,0,U8⟩ 1 1 [Ti Tl Z,Tm I u G,Tm E m r] rfl rfl (cQ _ _ _) Pu Pi Pr Ph Q9 _ rfl ?_
         intro g3 cap3 O T K al bl
         refine P3 T K al fun HO3 ba be=>?_
         clear T K al bl)
  have bb:=a1.out.grew ba;have HF3:=Tn bb;clear bb;go_roundw
  case rel=>
   refine⟨k+1,acc++[(g s,⟨Z,I,u,G,E,m,r⟩)],Ph,Pt,by rw[Uo,WJ,W.out],?_,by rw[WK,ab.out,HTS.out];rfl,?_⟩
   .refine a1.out.snoc (p:=(g s,⟨Z,I,u,G,E,m,r⟩)) W ?_ HO3 ba be;refine a3.out.move (fun _ _=>rfl) (fun j Q=>?_);have h1:=Q.1;have h2:=Q.2;have A:=bp.out;refine⟨Ph,h2,fun e=>?_⟩;have:=ac.out.own.lt j (by exact e);omega
   have h1:=aa ys N;have hs0:=bc.out;exact TY
  case measure=>simp[VS];omega
 obtain rfl:k=n:=by omega
 have ao:=(ys.block D (UE.1 a6).1).trans a6;have ah:=Tn ao;have HLM:Hid (l.map g=acc.map (·.1)):=Tn (by rw[ab.out,VD Zai]);clear ao;go_wp2_with fail;refine(nf acc ua k uc wr W a5 hl HUS (D+1) a8 HUI).mono ?_;rintro e t⟨⟨Z,I,u,G,E,m,r⟩,rfl,P,q⟩;refine P4 (aa a2 (aa ys q)) P fun N a3=>have a9:Hid (t.heap[D]?=Ts (Tq #[Ti Tl 0,zz,zz] 245 (0,0))):=Tn ((q.block D (UE.1 ah).1).trans ah);?_;clear q P;have J:=mG (B:=w.heap.size) (x:=⟨Z,I,u,G,E,m,r⟩) a9 hDw N a3 (fun k o=>Qy);dsimp only at J;refine PF t D (Ti Tl Z) (Tm I u G) (Tm E m r) fun V hV=>?_;rw[hV]at J;refine P4 J hV fun y HV=>have M:=a9.out;PK M fun e0 am e2=>PL M fun g0 g1 g2=>?_;clear M J hV;unfold bw;simp only;go_wp2_with fail;rw[HV.out];refine PK y.1 fun q0 q1 q2=>VC (v:=UT #[Ti Tl Z,Tm I u G,Tm E m r]) (by simp[Vo,results151,go_sem,q0,q1,q2]) rfl ⟨⟨Z,I,u,G,E,m,r⟩,rfl,by rw[HLM.out];exact y.out.2.2,y.2.1⟩
structure ae3(F:FuncId)(l:List gW)(g:gW->aQ)(w:UN):Prop where
 enters:∀args w,(Wu F args).run UB w= .ok (.enter F args) w
 does:∀s∈l,∀W,aq w W->VB UB F #[qh s] W (gF (g s) W)
def Eh(F l)(g:gW->aQ)(a n c w)(cf:ae3 F l g w)(hn:l.length=n)(hnc:n<=c)(hl:n<=1000000)(h:Kl w a l):
  VB UB 158 #[Tm a n c,.func (.func F) #[] #[]] w (gF (dO (l.map g)) w):=by
 obtain⟨i0,hi,Z,ac,ad⟩:=WN uG;refine PG hi Z ac ad hn h cf fun HI HZ0 HZ1 HZ2 HN H HF=>have eg:=cf.enters;P1 w.heap.size fun D C=>P1 (w.alloc (Tq #[Ti Tl 0,zz,zz] 245)) fun f d=>have HE0:=Tn (show aq w f from Pq);have HR0:Hid (f.heap[D]?=Ts (Tq #[Ti Tl 0,zz,zz] 245 (0,0))):=Tn (PP d C);have HS0:Hid (f.heap.size=D+1):=Tn Qx;have hDw:w.heap.size<=D:=Ph;have HD:=Tn C;?_;go_enter func158,ntmps158;go_upto_region 1 with fail;try rw[d]
 try rw[C]
 clear d C;go_wp2;go_loopw [10,5] (fun i v wr=>∃(k:Nat)(acc:List (aQ×bU)),k<=n/\i=Ti Tl k/\acc.length=k/\kf (D+1) v wr acc/\acc.map (·.1)=(l.take k).map g/\aq f wr) (fun i _ _=>n-(VS i).toNat)
 case atStart=>exact⟨0,[],VF _,rfl,rfl,kf.nil _ _,rfl,P0⟩
 obtain⟨k,acc,o,rfl,hal,T,hmap,hE⟩:=hrel;refine P5 hal T hmap hE fun ab HACC HMAP ys=>?_;obtain⟨ua,uc,rfl,huc1,huc2,hus,huw,hui⟩:=T.done hal;refine P4 hus hui fun HUS HUI=>?_;have hbw:D+1<=wr.heap.size:=by have:=hE.size;have:=HS0.out;omega
 by_cases R:k<n
 .obtain⟨s,z⟩:=ay HN R;obtain⟨b,off,hb,k0,k1,k2,k3,k4,k5⟩:=(H.ext (aa HE0 ys)) k s z;subst hb;have HDO:=Tn (HF.does s (Uv z));obtain⟨sl,sa,⟨y1,y2⟩,⟨ge,gs⟩⟩:=s;simp only at k0 k1 k2 k3 k4 k5;unfold qh at HDO;dsimp only at HDO;refine P1 wr.heap.size fun E K=>P1 (wr.alloc (Tq #[Ti Tl sl,Ti Tl sa,ag y1,ag y2,ag ge,ag gs] 101)) fun X m=>have HWV:Hid (aq w X):=Tn (by rw[<-m];exact af (aa HE0 ys) _);have HWV2:Hid (aq wr X):=Tn (by rw[<-m];exact af P0 _);have y_0:X.cell? ⟨E,0,U8⟩=Ts (Ti Tl sl):=R8;have y_1:X.cell? ⟨E,1,U8⟩=Ts (Ti Tl sa):=R8;have y_2:X.cell? ⟨E,2,U8⟩=Ts (ag y1):=R8;have y_3:X.cell? ⟨E,3,U8⟩=Ts (ag y2):=R8;have y_4:X.cell? ⟨E,4,U8⟩=Ts (ag ge):=R8;have y_5:X.cell? ⟨E,5,U8⟩=Ts (ag gs):=R8;have HTS:Hid ((l.take (k+1)).map g=(l.take k).map g++[g ⟨sl,sa,(y1,y2),⟨ge,gs⟩⟩]):=Tn Zas;?_;go_upto_region 5 with fail;(try rw[m]);(try rw[K]);clear m K;go_wp2_with fail;refine(HDO _ HWV).mono ?_;rintro e t⟨⟨xt,L,y,J,I,r,u⟩,rfl,W,q⟩;refine P3 W (aa HWV2 q) HWV2.out.size fun HIN U HVS=>have HA1:=Tn (HACC.ext U);have HO1:Hid (t.ownsRow (D+1) 245 3 (Tm ua k uc) k (bh acc)):=Tn (by have:=HA1.out.own;rw[ab.out]at this;exact this);have hb1:D+1<=t.heap.size:=VG hbw U.size;?_;unfold bw;simp only;have hi:=HI.out;have Z:=HZ0.out;have ac:=HZ1.out;have ad:=HZ2.out
  go_wp2_with (
         at_builtin
         refine wpList_append_lies _ rfl _ _ 243 rfl (D+1) 245 i0 _ 3 56 underlying243 hi Z ac ad rfl Pi _ _ _ rfl (HO1.alloc _) ⟨t.heap.size,0,U8⟩ 1 1 [Ti Tl xt,Tm L y J,Tm I r u] rfl rfl (cQ _ _ _) Pu Pi Pr Ph Q9 _ rfl ?_
         intro g3 cap3 O Y P hat3 hlt3
         refine P3 Y P hat3 fun HO3 HG3 HAT3=>?_
         clear Y P hat3 hlt3)
  have hF3:=HA1.out.grew HG3;have HF3:=Tn hF3;go_roundw
  case rel=>
   refine⟨k+1,acc++[(g ⟨sl,sa,(y1,y2),⟨ge,gs⟩⟩,⟨xt,L,y,J,I,r,u⟩)],Ph,Pt,by rw[Uo,WJ,ab.out],?_,by rw[WK,HMAP.out,HTS.out];rfl,?_⟩
   .refine HA1.out.snoc (p:=(g ⟨sl,sa,(y1,y2),⟨ge,gs⟩⟩,⟨xt,L,y,J,I,r,u⟩)) ab ?_ HO3 HG3 HAT3;refine HIN.out.move (fun _ _=>rfl) (fun j Q=>?_);have h1:=Q.1;have h2:=Q.2;have A:=HVS.out;refine⟨Ph,h2,fun e=>?_⟩;have:=HACC.out.own.lt j (by exact e);omega
   have h1:=aa ys U;have hs0:=HS0.out;exact TY
  case measure=>simp[VS];omega
 obtain rfl:k=n:=by omega
 have hrow:=(ys.block D (UE.1 HR0).1).trans HR0;have HROW:=Tn hrow;have HLM:Hid (l.map g=acc.map (·.1)):=Tn (by rw[HMAP.out,VD Zai]);go_wp2_with fail;refine(nf acc ua k uc wr ab huc1 hl HUS (D+1) hbw HUI).mono ?_;rintro e t⟨⟨xt,L,y,J,I,r,u⟩,rfl,W,q⟩;refine P3 (aa HE0 (aa ys q)) W ((q.block D (UE.1 HROW).1).trans HROW) fun U HIN HR1=>have N:=mG (B:=w.heap.size) (x:=⟨xt,L,y,J,I,r,u⟩) HR1 hDw U HIN (fun k o=>Qy);?_;dsimp only at N;refine PF t D (Ti Tl xt) (Tm L y J) (Tm I r u) fun V hV=>?_;rw[hV]at N;refine P4 N hV fun G HV=>have M:=HR1.out;PK M fun e0 am e2=>PL M fun g0 g1 g2=>?_;clear hV;unfold bw;simp only;go_wp2_with fail;rw[HV.out];refine PK G.1 fun q0 q1 q2=>VC (v:=UT #[Ti Tl xt,Tm L y J,Tm I r u]) (by simp[Vo,results158,go_sem,q0,q1,q2]) rfl ⟨⟨xt,L,y,J,I,r,u⟩,rfl,by rw[HLM.out];exact G.out.2.2,G.2.1⟩
def JD(b o j:Nat):((⟨b,o,U8⟩:VW).add j)=⟨b,o+j,U8⟩:=Px
def uh(B:Nat)(w:UN)(L:List (aQ×bU)):Prop:=B<=w.heap.size/\∀p∈L,jg (ta B w.heap.size) w p.1 p.2
def uh.ext{B}{L:List (aQ×bU)}(h:uh B w L)(g:aq w b):uh B b L:=
 ⟨VG h.1 g.size,fun p x=>(h.2 p x).move (fun k o=>g.block k o.2) (fun _ o=>⟨o.1,Wp o.2 g.size⟩)⟩
def uh.snoc{B}{L:List (aQ×bU)}{y:aQ}{x}(h:uh B w L)(g:aq w b)(d:jg (ta w.heap.size b.heap.size) b y x):uh B b (L++[(y,x)]):=by
 refine⟨(h.ext g).1,fun p c=>?_⟩;rcases WD.1 c with c|c
 .exact(h.ext g).2 p c
 rw[VP]at c;rw[c];exact d.move (fun _ _=>rfl) (fun _ o=>⟨VG h.1 o.1,o.2⟩)
def qY(w:UN)(L:List (aQ×bU))(T):cr 3 fW (w.alloc (Tq (bh L).toArray T)) (Ts ⟨w.heap.size,0,U8⟩) L:=by
 have J:=cQ w (bh L) T;have key:∀(L M:List (aQ×bU))(j:Nat)(p:aQ×bU),L[j]?=Ts p->(bh (M++L))[M.length*3+j*3]?=Ts (Ti Tl p.2.t)/\(bh (M++L))[M.length*3+j*3+1]?=Ts (Tm p.2.ba p.2.bl p.2.bc)/\(bh (M++L))[M.length*3+j*3+2]?=Ts (Tm p.2.la p.2.ll p.2.lc):=by
  intro L;induction L with
  |nil=>intro M j p h;simp at h
  |cons q L g=>
   intro M j p h;cases j with
   |zero=>
    cases h;have e:bh (M++q::L)=bh M++([Ti Tl q.2.t,Tm q.2.ba q.2.bl q.2.bc,Tm q.2.la q.2.ll q.2.lc]++bh L):=by unfold bh;rw[Xw,Vh]
    rw[e];have f:=nB M;refine⟨?_,?_,?_⟩<;>(rw[List.getElem?_append_right Ph];simp[f])
   |succ j=>
    have b:=g (M++[q]) j p h;rw[List.append_assoc,Uo,WJ]at b;rw[show M.length*3+(j+1)*3=(M.length+1)*3+j*3 from Ph];exact b
 intro j p x;obtain⟨d,h1,c⟩:=key L [] j p x;simp only[Vd,VJ,Yx,VY]at d h1 c;have at':∀k u,(bh L)[k]?=Ts u->(w.alloc (Tq (bh L).toArray T)).cell? ⟨w.heap.size,k,U8⟩=Ts u:=fun k u X=>by
  have:=J k u X;rwa[show((⟨w.heap.size,0,U8⟩:VW).add k)=⟨w.heap.size,k,U8⟩ by rw[JD,VY]]at this
 exact⟨w.heap.size,0,rfl,by rw[VY];exact at' _ _ d,by rw[VY];exact at' _ _ h1,by rw[VY];exact at' _ _ c⟩
def JX(p)(w:UN)(hp:cR p=true):VB UB 159 #[qh p] w (gF (fZ p) w):=by
 have hb:p.leaf.1<9223372036854775808/\p.leaf.2<9223372036854775808/\p.sig.e<9223372036854775808/\p.sig.s<9223372036854775808:=by
  unfold cR ik at hp;simp only[V7,decide_eq_true_eq]at hp;have h1:max p.leaf.1 p.leaf.2<2305843009213693951:=hp.2.2.1;have c:max p.sig.e p.sig.s<1152921504606845789:=hp.2.2.2;omega
 obtain⟨log,at_,⟨y1,y2⟩,⟨ge,gs⟩⟩:=p;dsimp only at hb;obtain⟨b1,b2,b3,b4⟩:=hb;refine P5 b1 b2 b3 b4 fun B1 B2 B3 B4=>?_;unfold qh;dsimp only;refine P1 (w.heap.size+1) fun D C=>P1 ((w.alloc (Tq #[Ti Tl log,Ti Tl at_,ag y1,ag y2,ag ge,ag gs] 101)).alloc (Tq #[Ti Tl 0,zz,zz] 245)) fun f d=>have HE0:=Tn (show aq w f from Pz);have HR0:Hid (f.heap[D]?=Ts (Tq #[Ti Tl 0,zz,zz] 245 (0,0))):=Tn (by rw[<-d,<-C];have:=UZ (w.alloc (Tq #[Ti Tl log,Ti Tl at_,ag y1,ag y2,ag ge,ag gs] 101)) (Tq #[Ti Tl 0,zz,zz] 245);rwa[Ud]at this);have HS0:Hid (f.heap.size=D+1):=Tn Qc;have hDw:w.heap.size<=D:=Ph;P1 w.heap.size fun b hb=>have hbD:b≠D:=Ph;?_;have hbl:b<f.heap.size:=by rw[HS0.out];omega
 have HZ0:Hid (f.cell? ⟨b,0,U8⟩=Ts (Ti Tl log)):=Tn Po;have HZ1:Hid (f.cell? ⟨b,1,U8⟩=Ts (Ti Tl at_)):=Tn Po;have HZ2:Hid (f.cell? ⟨b,2,U8⟩=Ts (ag y1)):=Tn Po;have HZ3:Hid (f.cell? ⟨b,3,U8⟩=Ts (ag y2)):=Tn Po;have HZ4:Hid (f.cell? ⟨b,4,U8⟩=Ts (ag ge)):=Tn Po;have HZ5:Hid (f.cell? ⟨b,5,U8⟩=Ts (ag gs)):=Tn Po;have HC0:Hid (uh (D+1) f []):=Tn ⟨Zap,fun p hp=>Zbw⟩;have r:Hid (∀(j:UN)(i:Nat)(u:UV),Fr (fun k=>k=D) f j->f.cell? ⟨b,i,U8⟩=Ts u->j.cell? ⟨b,i,U8⟩=Ts u):=Tn fun j i u P h=>(P.cell (p:=⟨b,i,U8⟩) hbl hbD).trans h;go_enter func159,ntmps159;go_upto_region 1 with fail;try rw[d]
 try rw[C]
 try rw[hb]
 try rw[show b+1=D from Ph]
 clear d;go_wp2_with fail;try rw[show b+1=D from Ph]
 refine wp_region_held_drew (S:=fun j=>Fr (fun k=>k=D) f j) Pg (Xg _ _) (fun G=>?_);refine Ve (i:=0) (v:=?_) rfl Pg Pg Pg (fun _ _ _ h=>h) (WQ ⟨Q8,fun j l=>?_⟩) G ?_;rotate_left
 .exact TV
 refine Ve (i:=1) (v:=?_) rfl Pg Pg Pg (fun _ _ _ h=>h) (WQ ⟨Q8,fun j l=>?_⟩) G ?_;rotate_left
 .have f0:=r.out j 0 _ l HZ0;exact TV
 refine Ve (i:=3) (v:=?_) rfl Pg Pg Pg (fun _ _ _ h=>h) (WQ ⟨Q8,fun j l=>?_⟩) G ?_;rotate_left
 .exact TV
 refine Ve (i:=4) (v:=?_) rfl Pg Pg Pg (fun _ _ _ h=>h) (WQ ⟨Q8,fun j l=>?_⟩) G ?_;rotate_left
 .have f0:=r.out j 1 _ l HZ1;exact TV
 refine Ve (i:=6) (v:=?_) rfl Pg Pg Pg (fun _ _ _ h=>h) (WQ ⟨Q8,fun j l=>?_⟩) G ?_;rotate_left
 .exact TV
 refine Ve (i:=7) (v:=?_) rfl Pg Pg Pg (fun _ _ _ h=>h) (WQ ⟨Q8,fun j l=>?_⟩) G ?_;rotate_left
 .exact TV
 refine Ve (i:=8) (v:=?_) rfl Pg Pg Pg (fun _ _ _ h=>h) (WQ ⟨Q8,fun j l=>?_⟩) G ?_;rotate_left
 .have f0:=r.out j 2 _ l HZ2;exact TV
 refine Ve (i:=10) (v:=?_) rfl Pg Pg Pg (fun _ _ _ h=>h) (WQ ⟨Q8,fun j l=>?_⟩) G ?_;rotate_left
 .exact TV
 refine Ve (i:=11) (v:=?_) rfl Pg Pg Pg (fun _ _ _ h=>h) (WQ ⟨Q8,fun j l=>?_⟩) G ?_;rotate_left
 .exact TV
 refine Ve (i:=12) (v:=?_) rfl Pg Pg Pg (fun _ _ _ h=>h) (WQ ⟨Q8,fun j l=>?_⟩) G ?_;rotate_left
 .have f0:=r.out j 3 _ l HZ3;exact TV
 refine Ve (i:=14) (v:=?_) rfl Pg Pg Pg (fun _ _ _ h=>h) (WQ ⟨Q8,fun j l=>?_⟩) G ?_;rotate_left
 .exact TV
 refine Ve (i:=15) (v:=?_) rfl Pg Pg Pg (fun _ _ _ h=>h) (WQ ⟨Q8,fun j l=>?_⟩) G ?_;rotate_left
 .exact TV
 refine Ve (i:=16) (v:=?_) rfl Pg Pg Pg (fun _ _ _ h=>h) (WQ ⟨Q8,fun j l=>?_⟩) G ?_;rotate_left
 .have f0:=r.out j 4 _ l HZ4;exact TV
 refine Ve (i:=18) (v:=?_) rfl Pg Pg Pg (fun _ _ _ h=>h) (WQ ⟨Q8,fun j l=>?_⟩) G ?_;rotate_left
 .exact TV
 refine Ve (i:=19) (v:=?_) rfl Pg Pg Pg (fun _ _ _ h=>h) (WQ ⟨Q8,fun j l=>?_⟩) G ?_;rotate_left
 .exact TV
 refine Ve (i:=20) (v:=?_) rfl Pg Pg Pg (fun _ _ _ h=>h) (WQ ⟨Q8,fun j l=>?_⟩) G ?_;rotate_left
 .have f0:=r.out j 5 _ l HZ5;exact TV
 refine Vx (rs:=[2]) Pg Pm ?_;refine Va rfl (fun K H=>?_) Vp;go_simp;refine(mO log _).mono ?_;rintro e v1⟨⟨bs,E,be,t,J,bb,T⟩,rfl,g,c⟩;refine P4 ((HC0.ext (ap _)).snoc c g) (aa (ap _) c) fun HC1 HX1=>?_;unfold bw;try simp only
 refine H.out _ _ (Uh HX1) (fun G=>?_);refine Vx (rs:=[5]) Pg Pm ?_;refine Va rfl (fun K H=>?_) Vp;go_simp;refine(mO at_ _).mono ?_;rintro e v2⟨⟨a2,an,bv,bl,y,ao,O⟩,rfl,g,c⟩;refine P4 ((HC1.ext P0).snoc c g) (aa HX1 c) fun HC2 HX2=>?_;unfold bw;try simp only
 refine H.out _ _ (Uh HX2) (fun G=>?_);refine Vx (rs:=[9]) Pg Pm ?_;refine Va rfl (fun K H=>?_) Vp;go_simp;refine(kK y1 _ B1).mono ?_;rintro e v3⟨⟨X,b0,N,Q,a8,ab,bo⟩,rfl,g,c⟩;refine P4 ((HC2.ext P0).snoc c g) (aa HX2 c) fun HC3 HX3=>?_;unfold bw;try simp only
 refine H.out _ _ (Uh HX3) (fun G=>?_);refine Vx (rs:=[13]) Pg Pm ?_;refine Va rfl (fun K H=>?_) Vp;go_simp;refine(kK y2 _ B2).mono ?_;rintro e v4⟨⟨Z,bc,bp,ac,a1,Y,a9⟩,rfl,g,c⟩;refine P4 ((HC3.ext P0).snoc c g) (aa HX3 c) fun HC4 HX4=>?_;unfold bw;try simp only
 refine H.out _ _ (Uh HX4) (fun G=>?_);refine Vx (rs:=[17]) Pg Pm ?_;refine Va rfl (fun K H=>?_) Vp;go_simp;refine(kK ge _ B3).mono ?_;rintro e v5⟨⟨I,z,R,bt,ba,al,b5⟩,rfl,g,c⟩;refine P4 ((HC4.ext P0).snoc c g) (aa HX4 c) fun HC5 HX5=>?_;unfold bw;try simp only
 refine H.out _ _ (Uh HX5) (fun G=>?_);refine Vx (rs:=[21]) Pg Pm ?_;refine Va rfl (fun K H=>?_) Vp;go_simp;refine(kK gs _ B4).mono ?_;rintro e v6⟨⟨a3,bn,a0,F,b6,W,A⟩,rfl,g,c⟩;refine P4 ((HC5.ext P0).snoc c g) (aa HX5 c) fun HC6 HX6=>?_;unfold bw;try simp only
 refine H.out _ _ (Uh HX6) (fun G=>?_);refine Vx (rs:=[22]) Pg Pm ?_;refine Va rfl (fun K H=>?_) Vp;go_simp;refine H.out _ _ (Uh (af HX6 _)) (fun G=>?_);refine P4 (qY v6 [(eC log,⟨bs,E,be,t,J,bb,T⟩),(eC at_,⟨a2,an,bv,bl,y,ao,O⟩),(cS y1,⟨X,b0,N,Q,a8,ab,bo⟩),(cS y2,⟨Z,bc,bp,ac,a1,Y,a9⟩),(cS ge,⟨I,z,R,bt,ba,al,b5⟩),(cS gs,⟨a3,bn,a0,F,b6,W,A⟩)] 245) (HC6.ext (af P0 (Tq #[Ti Tl bs,Tm E be t,Tm J bb T,Ti Tl a2,Tm an bv bl,Tm y ao O,Ti Tl X,Tm b0 N Q,Tm a8 ab bo,Ti Tl Z,Tm bc bp ac,Tm a1 Y a9,Ti Tl I,Tm z R bt,Tm ba al b5,Ti Tl a3,Tm bn a0 F,Tm b6 W A] 245))) fun HSL HAL=>Vx (rs:=[23]) Pg Pm ?_;refine Va rfl (fun K H=>?_) Vp;go_simp;refine(nf [(eC log,⟨bs,E,be,t,J,bb,T⟩),(eC at_,⟨a2,an,bv,bl,y,ao,O⟩),(cS y1,⟨X,b0,N,Q,a8,ab,bo⟩),(cS y2,⟨Z,bc,bp,ac,a1,Y,a9⟩),(cS ge,⟨I,z,R,bt,ba,al,b5⟩),(cS gs,⟨a3,bn,a0,F,b6,W,A⟩)] (Ts ⟨v6.heap.size,0,U8⟩) 6 6 (v6.alloc (Tq #[Ti Tl bs,Tm E be t,Tm J bb T,Ti Tl a2,Tm an bv bl,Tm y ao O,Ti Tl X,Tm b0 N Q,Tm a8 ab bo,Ti Tl Z,Tm bc bp ac,Tm a1 Y a9,Ti Tl I,Tm z R bt,Tm ba al b5,Ti Tl a3,Tm bn a0 F,Tm b6 W A] 245)) rfl (UY _) Pi HSL (D+1) HAL.1 HAL.2).mono ?_;rintro e v7⟨⟨ad,U,ah,L,a4,a7,a5⟩,rfl,g,c⟩;refine P4 g (aa (af HX6 _) c) fun HSQ7 a6=>?_;unfold bw;try simp only
 refine H.out _ _ (Uh a6) (fun G=>?_);have M:=(a6.block D (UE.1 HR0).1).trans HR0;have q:=mG (w:=w) (B:=w.heap.size) (x:=⟨ad,U,ah,L,a4,a7,a5⟩) M hDw (aa HE0 a6) HSQ7 (fun k o=>by have h1:=o.1;have c:=o.2;exact⟨Ph,Ph,c⟩);dsimp only at q;refine PF v7 D (Ti Tl ad) (Tm U ah L) (Tm a4 a7 a5) fun V hV=>?_;rw[hV]at q;have m:=Tn q;have HFV:Hid (Fr (fun k=>k=D) f V):=Tn (by rw[<-hV];exact(((Uh a6).trans (Uz (S:=fun k=>k=D) _ ⟨D,0,U8⟩ _ rfl)).trans (Uz (S:=fun k=>k=D) _ ⟨D,1,U8⟩ _ rfl)).trans (Uz (S:=fun k=>k=D) _ ⟨D,2,U8⟩ _ rfl));have HV:=Tn hV;refine PK M fun e0 am e2=>PL M fun g0 g1 g2=>?_;clear hV;refine Vx (rs:=[24]) Pg Pm ?_;refine Va rfl (fun K H=>?_) Vp;go_simp;go_wp2_with fail;rw[HV.out];refine H.out _ _ HFV (fun G=>?_);refine wpAnyH_done Pg ?_ _;go_wp2_with fail;exact PK m.1 fun q0 q1 q2=>VC (v:=UT #[Ti Tl ad,Tm U ah L,Tm a4 a7 a5]) (by simp[Vo,results159,go_sem,q0,q1,q2]) rfl ⟨⟨ad,U,ah,L,a4,a7,a5⟩,rfl,m.2.2,m.2.1⟩
def O5(l:List au)(w)(h:∀s∈l,s.length<=1000000):aeU 149 l cg w where
 enters:=Vv func149 Pg rfl
 does:=fun s z W _=>CU (aL s) W (h s z)
def agO(l:List gW)(w)(h:∀p∈l,cR p=true):ae3 159 l fZ w where
 enters:=Vv func159 Pg rfl
 does:=fun p x W _=>JX p W (h p x)
def JA(v)(w:UN):VB UB 152 #[U1 v] w (gF (kY v) w):=by
 have h:=MW v w;cases v<;>exact h
def yH(s:au)(w:UN)(h:s.length<=1000000):VB UB 149 #[UH (aL s)] w (gF (cg s) w):=CU (aL s) w h
def DZ(c x w)(hC:lF w c x)(hN:kQ c)(o:c.key<9223372036854775808):VB UB 81 #[fx c x] w (gF (fI c) w):=by
 refine P3 hC hN o fun an Y HK=>?_;clear o;unfold fx;clear hC hN;refine P1 (w.heap.size+1) fun D C=>P1 ((w.alloc (Tq #[Ti Tl c.serial,UH (aL c.issuer),UH (aL c.subject),ag c.key,Tm x.na c.names.length x.nc,Ti Tl c.from_,Ti Tl c.until_,U1 c.ca,Ti Tl c.depth,Tm x.pa c.permit.length x.pc,Tm x.ra c.proms.length x.rc,ag c.sig.e,ag c.sig.s] 97)).alloc (Tq #[Ti Tl 0,zz,zz] 245)) fun f d=>have dk:=Tn (show aq w f from Pz);have dw:Hid (f.heap[D]?=Ts (Tq #[Ti Tl 0,zz,zz] 245 (0,0))):=Tn Pn;have d2:Hid (f.heap.size=D+1):=Tn Qc;have hDw:w.heap.size<=D:=Ph;P1 w.heap.size fun b hb=>have hbD:b≠D:=Ph;?_;have hbl:b<f.heap.size:=by rw[d2.out];omega
 have HZ0:Hid (f.cell? ⟨b,0,U8⟩=Ts (Ti Tl c.serial)):=Tn Po;have HZ1:Hid (f.cell? ⟨b,1,U8⟩=Ts (UH (aL c.issuer))):=Tn Po;have HZ2:Hid (f.cell? ⟨b,2,U8⟩=Ts (UH (aL c.subject))):=Tn Po;have HZ3:Hid (f.cell? ⟨b,3,U8⟩=Ts (ag c.key)):=Tn Po;have HZ4:Hid (f.cell? ⟨b,4,U8⟩=Ts (Tm x.na c.names.length x.nc)):=Tn Po;have HZ5:Hid (f.cell? ⟨b,5,U8⟩=Ts (Ti Tl c.from_)):=Tn Po;have HZ6:Hid (f.cell? ⟨b,6,U8⟩=Ts (Ti Tl c.until_)):=Tn Po;have HZ7:Hid (f.cell? ⟨b,7,U8⟩=Ts (U1 c.ca)):=Tn Po;have HZ8:Hid (f.cell? ⟨b,8,U8⟩=Ts (Ti Tl c.depth)):=Tn Po;have HZ9:Hid (f.cell? ⟨b,9,U8⟩=Ts (Tm x.pa c.permit.length x.pc)):=Tn Po;have HC0:Hid (uh (D+1) f []):=Tn ⟨by rw[d2.out];exact UY _,fun p hp=>Zbw⟩;have q:Hid (∀(m:UN)(i:Nat)(u:UV),Fr (fun k=>k=D) f m->f.cell? ⟨b,i,U8⟩=Ts u->m.cell? ⟨b,i,U8⟩=Ts u):=Tn fun m i u P h=>(P.cell (p:=⟨b,i,U8⟩) hbl hbD).trans h;go_enter func81,ntmps81;go_upto_region 1 with fail;try rw[d]
 try rw[C]
 try rw[hb]
 try rw[show b+1=D from Ph]
 clear d;go_wp2_with fail;try rw[show b+1=D from Ph]
 refine wp_region_held_drew (S:=fun m=>Fr (fun k=>k=D) f m) Pg (Xg _ _) (fun G=>?_);refine Ve (i:=0) (v:=?_) rfl Pg Pg Pg (fun _ _ _ h=>h) (WQ ⟨Q8,fun m l=>?_⟩) G ?_;rotate_left
 .exact TV
 refine Ve (i:=1) (v:=?_) rfl Pg Pg Pg (fun _ _ _ h=>h) (WQ ⟨Q8,fun m l=>?_⟩) G ?_;rotate_left
 .have f0:=q.out m 0 _ l HZ0;exact TV
 refine Ve (i:=3) (v:=?_) rfl Pg Pg Pg (fun _ _ _ h=>h) (WQ ⟨Q8,fun m l=>?_⟩) G ?_;rotate_left
 .exact TV
 refine Ve (i:=4) (v:=?_) rfl Pg Pg Pg (fun _ _ _ h=>h) (WQ ⟨Q8,fun m l=>?_⟩) G ?_;rotate_left
 .have f0:=q.out m 1 _ l HZ1;exact TV
 refine Ve (i:=6) (v:=?_) rfl Pg Pg Pg (fun _ _ _ h=>h) (WQ ⟨Q8,fun m l=>?_⟩) G ?_;rotate_left
 .exact TV
 refine Ve (i:=7) (v:=?_) rfl Pg Pg Pg (fun _ _ _ h=>h) (WQ ⟨Q8,fun m l=>?_⟩) G ?_;rotate_left
 .have f0:=q.out m 2 _ l HZ2;exact TV
 refine Ve (i:=9) (v:=?_) rfl Pg Pg Pg (fun _ _ _ h=>h) (WQ ⟨Q8,fun m l=>?_⟩) G ?_;rotate_left
 .exact TV
 refine Ve (i:=10) (v:=?_) rfl Pg Pg Pg (fun _ _ _ h=>h) (WQ ⟨Q8,fun m l=>?_⟩) G ?_;rotate_left
 .have f0:=q.out m 3 _ l HZ3;exact TV
 refine Ve (i:=12) (v:=?_) rfl Pg Pg Pg (fun _ _ _ h=>h) (WQ ⟨Q8,fun m l=>?_⟩) G ?_;rotate_left
 .exact TV
 refine Ve (i:=13) (v:=?_) rfl Pg Pg Pg (fun _ _ _ h=>h) (WQ ⟨Q8,fun m l=>?_⟩) G ?_;rotate_left
 .have f0:=q.out m 4 _ l HZ4;exact TV
 refine Ve (i:=15) (v:=?_) rfl Pg Pg Pg (fun _ _ _ h=>h) (WQ ⟨Q8,fun m l=>?_⟩) G ?_;rotate_left
 .exact TV
 refine Ve (i:=16) (v:=?_) rfl Pg Pg Pg (fun _ _ _ h=>h) (WQ ⟨Q8,fun m l=>?_⟩) G ?_;rotate_left
 .have f0:=q.out m 5 _ l HZ5;exact TV
 refine Ve (i:=18) (v:=?_) rfl Pg Pg Pg (fun _ _ _ h=>h) (WQ ⟨Q8,fun m l=>?_⟩) G ?_;rotate_left
 .exact TV
 refine Ve (i:=19) (v:=?_) rfl Pg Pg Pg (fun _ _ _ h=>h) (WQ ⟨Q8,fun m l=>?_⟩) G ?_;rotate_left
 .have f0:=q.out m 6 _ l HZ6;exact TV
 refine Ve (i:=21) (v:=?_) rfl Pg Pg Pg (fun _ _ _ h=>h) (WQ ⟨Q8,fun m l=>?_⟩) G ?_;rotate_left
 .exact TV
 refine Ve (i:=22) (v:=?_) rfl Pg Pg Pg (fun _ _ _ h=>h) (WQ ⟨Q8,fun m l=>?_⟩) G ?_;rotate_left
 .have f0:=q.out m 7 _ l HZ7;exact TV
 refine Ve (i:=24) (v:=?_) rfl Pg Pg Pg (fun _ _ _ h=>h) (WQ ⟨Q8,fun m l=>?_⟩) G ?_;rotate_left
 .exact TV
 refine Ve (i:=25) (v:=?_) rfl Pg Pg Pg (fun _ _ _ h=>h) (WQ ⟨Q8,fun m l=>?_⟩) G ?_;rotate_left
 .have f0:=q.out m 8 _ l HZ8;exact TV
 refine Ve (i:=27) (v:=?_) rfl Pg Pg Pg (fun _ _ _ h=>h) (WQ ⟨Q8,fun m l=>?_⟩) G ?_;rotate_left
 .exact TV
 refine Ve (i:=28) (v:=?_) rfl Pg Pg Pg (fun _ _ _ h=>h) (WQ ⟨Q8,fun m l=>?_⟩) G ?_;rotate_left
 .have f0:=q.out m 9 _ l HZ9;exact TV
 refine Vx (rs:=[2]) Pg Pm ?_;refine Va rfl (fun K H=>?_) Vp;go_simp;refine(mO c.serial _).mono ?_;rintro e v1⟨⟨c7,a1,c0,ab,a4,cw,ba⟩,rfl,g,j⟩;refine P4 ((HC0.ext (ap _)).snoc j g) (aa (ap _) j) fun HC1 dq=>?_;clear g j G;unfold bw;try simp only
 refine H.out _ _ (Uh dq) (fun G=>?_);clear H K;refine Vx (rs:=[5]) Pg Pm ?_;refine Va rfl (fun K H=>?_) Vp;go_simp;refine(yH c.issuer _ Y.iss).mono ?_;rintro e v2⟨⟨b6,b2,da,c1,ad,b3,a7⟩,rfl,g,j⟩;refine P4 ((HC1.ext P0).snoc j g) (aa dq j) fun HC2 dn=>?_;clear g j G;unfold bw;try simp only
 refine H.out _ _ (Uh dn) (fun G=>?_);clear H K;refine Vx (rs:=[8]) Pg Pm ?_;refine Va rfl (fun K H=>?_) Vp;go_simp;refine(yH c.subject _ Y.sub).mono ?_;rintro e v3⟨⟨be,db,a6,a8,cm,bp,c5⟩,rfl,g,j⟩;refine P4 ((HC2.ext P0).snoc j g) (aa dn j) fun HC3 dv=>?_;clear g j G;unfold bw;try simp only
 refine H.out _ _ (Uh dv) (fun G=>?_);clear H K;refine Vx (rs:=[11]) Pg Pm ?_;refine Va rfl (fun K H=>?_) Vp;go_simp;refine(kK c.key _ HK).mono ?_;rintro e v4⟨⟨bo,cx,c6,bt,b5,bn,cq⟩,rfl,g,j⟩;refine P4 ((HC3.ext P0).snoc j g) (aa dv j) fun HC4 de=>?_;clear g j G;unfold bw;try simp only
 refine H.out _ _ (Uh de) (fun G=>?_);clear H K;refine Vx (rs:=[14]) Pg Pm ?_;refine Va rfl (fun K H=>?_) Vp;go_simp;refine(tF 149 c.names cg x.na c.names.length x.nc _ (O5 _ _ Y.nms) rfl an.out.nl Y.nl (an.names.ext (aa dk de))).mono ?_;rintro e v5⟨⟨a3,al,a9,c8,cv,b1,dc⟩,rfl,g,j⟩;refine P4 ((HC4.ext P0).snoc j g) (aa de j) fun HC5 d0=>?_;clear g j G;unfold bw;try simp only
 refine H.out _ _ (Uh d0) (fun G=>?_);clear H K;refine Vx (rs:=[17]) Pg Pm ?_;refine Va rfl (fun K H=>?_) Vp;go_simp;refine(mO c.from_ _).mono ?_;rintro e v6⟨⟨cb,c4,b4,a2,dd,bc,a0⟩,rfl,g,j⟩;refine P4 ((HC5.ext P0).snoc j g) (aa d0 j) fun HC6 d1=>?_;clear g j G;unfold bw;try simp only
 refine H.out _ _ (Uh d1) (fun G=>?_);clear H K;refine Vx (rs:=[20]) Pg Pm ?_;refine Va rfl (fun K H=>?_) Vp;go_simp;refine(mO c.until_ _).mono ?_;rintro e v7⟨⟨bv,bb,b0,a5,cc,ck,ci⟩,rfl,g,j⟩;refine P4 ((HC6.ext P0).snoc j g) (aa d1 j) fun HC7 dx=>?_;clear g j G;unfold bw;try simp only
 refine H.out _ _ (Uh dx) (fun G=>?_);clear H K;refine Vx (rs:=[23]) Pg Pm ?_;refine Va rfl (fun K H=>?_) Vp;go_simp;refine(JA c.ca _).mono ?_;rintro e v8⟨⟨c2,bl,ah,cl,ch,ct,cp⟩,rfl,g,j⟩;refine P4 ((HC7.ext P0).snoc j g) (aa dx j) fun HC8 d3=>?_;clear g j G;unfold bw;try simp only
 refine H.out _ _ (Uh d3) (fun G=>?_);clear H K;refine Vx (rs:=[26]) Pg Pm ?_;refine Va rfl (fun K H=>?_) Vp;go_simp;refine(mO c.depth _).mono ?_;rintro e v9⟨⟨cn,cs,cf,ao,c3,ac,bs⟩,rfl,g,j⟩;refine P4 ((HC8.ext P0).snoc j g) (aa d3 j) fun HC9 di=>?_;clear g j G;unfold bw;try simp only
 refine H.out _ _ (Uh di) (fun G=>?_);clear H K;refine Vx (rs:=[29]) Pg Pm ?_;refine Va rfl (fun K H=>?_) Vp;go_simp;refine(tF 149 c.permit cg x.pa c.permit.length x.pc _ (O5 _ _ Y.prt) rfl an.out.pl Y.pl (an.permit.ext (aa dk di))).mono ?_;rintro e c9⟨⟨X,N,A,W,Q,I,R⟩,rfl,g,j⟩;refine P4 ((HC9.ext P0).snoc j g) (aa di j) fun ds Z=>?_;clear g j G;unfold bw;try simp only
 refine H.out _ _ (Uh Z) (fun G=>?_);clear H K;refine Vx (rs:=[30]) Pg Pm ?_;refine Va rfl (fun K H=>?_) Vp;go_simp;refine H.out _ _ (Uh (af Z _)) (fun G=>?_);clear H K;refine P4 (qY c9 [(eC c.serial,⟨c7,a1,c0,ab,a4,cw,ba⟩),(cg c.issuer,⟨b6,b2,da,c1,ad,b3,a7⟩),(cg c.subject,⟨be,db,a6,a8,cm,bp,c5⟩),(cS c.key,⟨bo,cx,c6,bt,b5,bn,cq⟩),(dO (c.names.map cg),⟨a3,al,a9,c8,cv,b1,dc⟩),(eC c.from_,⟨cb,c4,b4,a2,dd,bc,a0⟩),(eC c.until_,⟨bv,bb,b0,a5,cc,ck,ci⟩),(kY c.ca,⟨c2,bl,ah,cl,ch,ct,cp⟩),(eC c.depth,⟨cn,cs,cf,ao,c3,ac,bs⟩),(dO (c.permit.map cg),⟨X,N,A,W,Q,I,R⟩)] 245) (ds.ext (af P0 (Tq #[Ti Tl c7,Tm a1 c0 ab,Tm a4 cw ba,Ti Tl b6,Tm b2 da c1,Tm ad b3 a7,Ti Tl be,Tm db a6 a8,Tm cm bp c5,Ti Tl bo,Tm cx c6 bt,Tm b5 bn cq,Ti Tl a3,Tm al a9 c8,Tm cv b1 dc,Ti Tl cb,Tm c4 b4 a2,Tm dd bc a0,Ti Tl bv,Tm bb b0 a5,Tm cc ck ci,Ti Tl c2,Tm bl ah cl,Tm ch ct cp,Ti Tl cn,Tm cs cf ao,Tm c3 ac bs,Ti Tl X,Tm N A W,Tm Q I R] 245))) fun dm dj=>Vx (rs:=[31]) Pg Pm ?_;refine Va rfl (fun K H=>?_) Vp;go_simp;refine(nf [(eC c.serial,⟨c7,a1,c0,ab,a4,cw,ba⟩),(cg c.issuer,⟨b6,b2,da,c1,ad,b3,a7⟩),(cg c.subject,⟨be,db,a6,a8,cm,bp,c5⟩),(cS c.key,⟨bo,cx,c6,bt,b5,bn,cq⟩),(dO (c.names.map cg),⟨a3,al,a9,c8,cv,b1,dc⟩),(eC c.from_,⟨cb,c4,b4,a2,dd,bc,a0⟩),(eC c.until_,⟨bv,bb,b0,a5,cc,ck,ci⟩),(kY c.ca,⟨c2,bl,ah,cl,ch,ct,cp⟩),(eC c.depth,⟨cn,cs,cf,ao,c3,ac,bs⟩),(dO (c.permit.map cg),⟨X,N,A,W,Q,I,R⟩)] (Ts ⟨c9.heap.size,0,U8⟩) 10 10 (c9.alloc (Tq #[Ti Tl c7,Tm a1 c0 ab,Tm a4 cw ba,Ti Tl b6,Tm b2 da c1,Tm ad b3 a7,Ti Tl be,Tm db a6 a8,Tm cm bp c5,Ti Tl bo,Tm cx c6 bt,Tm b5 bn cq,Ti Tl a3,Tm al a9 c8,Tm cv b1 dc,Ti Tl cb,Tm c4 b4 a2,Tm dd bc a0,Ti Tl bv,Tm bb b0 a5,Tm cc ck ci,Ti Tl c2,Tm bl ah cl,Tm ch ct cp,Ti Tl cn,Tm cs cf ao,Tm c3 ac bs,Ti Tl X,Tm N A W,Tm Q I R] 245)) rfl (UY _) Pi dm (D+1) dj.1 dj.2).mono ?_;rintro e t⟨⟨O,J,E,U,F,L,y⟩,rfl,g,j⟩;refine P4 g (aa (af Z _) j) fun dl T=>?_;clear g j G dm dj;unfold bw;try simp only
 refine H.out _ _ (Uh T) (fun G=>?_);clear H K;have M:=(T.block D (UE.1 dw).1).trans dw;have z:=mG (w:=w) (B:=w.heap.size) (x:=⟨O,J,E,U,F,L,y⟩) M hDw (aa dk T) dl (fun k o=>by have h1:=o.1;have j:=o.2;exact⟨Ph,Ph,j⟩);dsimp only at z;refine PF t D (Ti Tl O) (Tm J E U) (Tm F L y) fun V hV=>?_;rw[hV]at z;have r:=Tn z;have HFV:Hid (Fr (fun k=>k=D) f V):=Tn (by rw[<-hV];exact(((Uh T).trans (Uz (S:=fun k=>k=D) _ ⟨D,0,U8⟩ _ rfl)).trans (Uz (S:=fun k=>k=D) _ ⟨D,1,U8⟩ _ rfl)).trans (Uz (S:=fun k=>k=D) _ ⟨D,2,U8⟩ _ rfl));have HV:=Tn hV;refine PK M fun e0 am e2=>PL M fun g0 g1 g2=>?_;clear M z hV;refine Vx (rs:=[32]) Pg Pm ?_;refine Va rfl (fun K H=>?_) Vp;go_simp;go_wp2_with fail;rw[HV.out];refine H.out _ _ HFV (fun G=>?_);clear H K e0 am e2 g0 g1 g2;refine wpAnyH_done Pg ?_ _;go_wp2_with fail;exact PK r.1 fun q0 q1 q2=>VC (v:=UT #[Ti Tl O,Tm J E U,Tm F L y]) (by simp[Vo,results81,go_sem,q0,q1,q2]) rfl ⟨⟨O,J,E,U,F,L,y⟩,rfl,r.2.2,r.2.1⟩
def zN(c x w)(hC:lF w c x)(hN:kQ c)(o:c.key<9223372036854775808)(a6:∀p∈c.proms,cR p=true):VB UB 93 #[fx c x] w (gF (du c) w):=by
 refine P5 hC hN o a6 fun an ba HK HPR=>?_;clear o a6;unfold fx;clear hC hN;refine P1 (w.heap.size+1) fun D C=>P1 ((w.alloc (Tq #[Ti Tl c.serial,UH (aL c.issuer),UH (aL c.subject),ag c.key,Tm x.na c.names.length x.nc,Ti Tl c.from_,Ti Tl c.until_,U1 c.ca,Ti Tl c.depth,Tm x.pa c.permit.length x.pc,Tm x.ra c.proms.length x.rc,ag c.sig.e,ag c.sig.s] 97)).alloc (Tq #[Ti Tl 0,zz,zz] 245)) fun f d=>have a2:=Tn (show aq w f from Pz);have a5:Hid (f.heap[D]?=Ts (Tq #[Ti Tl 0,zz,zz] 245 (0,0))):=Tn Pn;have a7:Hid (f.heap.size=D+1):=Tn Qc;have hDw:w.heap.size<=D:=Ph;P1 w.heap.size fun b hb=>have hbD:b≠D:=Ph;?_;have hbl:b<f.heap.size:=by rw[a7.out];omega
 have HZ0:Hid (f.cell? ⟨b,0,U8⟩=Ts (Ti Tl c.serial)):=Tn Po;have HZ1:Hid (f.cell? ⟨b,1,U8⟩=Ts (UH (aL c.issuer))):=Tn Po;have HZ2:Hid (f.cell? ⟨b,2,U8⟩=Ts (UH (aL c.subject))):=Tn Po;have HZ3:Hid (f.cell? ⟨b,3,U8⟩=Ts (ag c.key)):=Tn Po;have HZ4:Hid (f.cell? ⟨b,4,U8⟩=Ts (Tm x.na c.names.length x.nc)):=Tn Po;have HZ5:Hid (f.cell? ⟨b,5,U8⟩=Ts (Ti Tl c.from_)):=Tn Po;have HZ6:Hid (f.cell? ⟨b,6,U8⟩=Ts (Ti Tl c.until_)):=Tn Po;have HZ7:Hid (f.cell? ⟨b,7,U8⟩=Ts (U1 c.ca)):=Tn Po;have HZ8:Hid (f.cell? ⟨b,8,U8⟩=Ts (Ti Tl c.depth)):=Tn Po;have HZ9:Hid (f.cell? ⟨b,9,U8⟩=Ts (Tm x.pa c.permit.length x.pc)):=Tn Po;have al:Hid (f.cell? ⟨b,10,U8⟩=Ts (Tm x.ra c.proms.length x.rc)):=Tn Po;have a3:Hid (f.cell? ⟨b,11,U8⟩=Ts (ag c.sig.e)):=Tn Po;have a8:Hid (f.cell? ⟨b,12,U8⟩=Ts (ag c.sig.s)):=Tn Po;have HC0:Hid (uh (D+1) f []):=Tn ⟨by rw[a7.out];exact UY _,fun p hp=>Zbw⟩;have g:Hid (∀(j:UN)(i:Nat)(u:UV),Fr (fun k=>k=D) f j->f.cell? ⟨b,i,U8⟩=Ts u->j.cell? ⟨b,i,U8⟩=Ts u):=Tn fun j i u P h=>(P.cell (p:=⟨b,i,U8⟩) hbl hbD).trans h;go_enter func93,ntmps93;go_upto_region 1 with fail;try rw[d]
 try rw[C]
 try rw[hb]
 try rw[show b+1=D from Ph]
 clear d;go_wp2_with fail;try rw[show b+1=D from Ph]
 refine wp_region_held_drew (S:=fun j=>Fr (fun k=>k=D) f j) Pg (Xg _ _) (fun G=>?_);refine Ve (i:=0) (v:=?_) rfl Pg Pg Pg (fun _ _ _ h=>h) (WQ ⟨Q8,fun j l=>?_⟩) G ?_;rotate_left
 .have f0:=g.out j 0 _ l HZ0;have f1:=g.out j 1 _ l HZ1;have f2:=g.out j 2 _ l HZ2;have f3:=g.out j 3 _ l HZ3;have f4:=g.out j 4 _ l HZ4;have f5:=g.out j 5 _ l HZ5;have f6:=g.out j 6 _ l HZ6;have f7:=g.out j 7 _ l HZ7;have f8:=g.out j 8 _ l HZ8;have f9:=g.out j 9 _ l HZ9;have f10:=g.out j 10 _ l al;have f11:=g.out j 11 _ l a3;have f12:=g.out j 12 _ l a8;exact TV
 refine Ve (i:=2) (v:=?_) rfl Pg Pg Pg (fun _ _ _ h=>h) (WQ ⟨Q8,fun j l=>?_⟩) G ?_;rotate_left
 .exact TV
 refine Ve (i:=3) (v:=?_) rfl Pg Pg Pg (fun _ _ _ h=>h) (WQ ⟨Q8,fun j l=>?_⟩) G ?_;rotate_left
 .have f0:=g.out j 10 _ l al;exact TV
 refine Vx (rs:=[1]) Pg Pm ?_;refine Va rfl (fun K H=>?_) Vp;go_simp;refine(DZ c x _ (an.ext (aa a2 (ap _))) ba HK).mono ?_;rintro e v1⟨⟨ac,A,Y,y,E,X,L⟩,rfl,q,t⟩;refine P4 ((HC0.ext (ap _)).snoc t q) (aa (ap _) t) fun HC1 a0=>?_;clear q t G;unfold bw;try simp only
 refine H.out _ _ (Uh a0) (fun G=>?_);clear H K;refine Vx (rs:=[4]) Pg Pm ?_;refine Va rfl (fun K H=>?_) Vp;go_simp;refine(Eh 159 c.proms fZ x.ra c.proms.length x.rc _ (agO _ _ HPR) rfl an.out.rl ba.rl (an.proms.ext (aa a2 a0))).mono ?_;rintro e v2⟨⟨U,R,ad,Z,z,T,I⟩,rfl,q,t⟩;refine P4 ((HC1.ext P0).snoc t q) (aa a0 t) fun HC2 ao=>?_;clear q t G;unfold bw;try simp only
 refine H.out _ _ (Uh ao) (fun G=>?_);clear H K;refine Vx (rs:=[5]) Pg Pm ?_;refine Va rfl (fun K H=>?_) Vp;go_simp;refine H.out _ _ (Uh (af ao _)) (fun G=>?_);clear H K;refine P4 (qY v2 [(fI c,⟨ac,A,Y,y,E,X,L⟩),(dO (c.proms.map fZ),⟨U,R,ad,Z,z,T,I⟩)] 245) (HC2.ext (af P0 (Tq #[Ti Tl ac,Tm A Y y,Tm E X L,Ti Tl U,Tm R ad Z,Tm z T I] 245))) fun a4 a1=>Vx (rs:=[6]) Pg Pm ?_;refine Va rfl (fun K H=>?_) Vp;go_simp;refine(nf [(fI c,⟨ac,A,Y,y,E,X,L⟩),(dO (c.proms.map fZ),⟨U,R,ad,Z,z,T,I⟩)] (Ts ⟨v2.heap.size,0,U8⟩) 2 2 (v2.alloc (Tq #[Ti Tl ac,Tm A Y y,Tm E X L,Ti Tl U,Tm R ad Z,Tm z T I] 245)) rfl (UY _) Pi a4 (D+1) a1.1 a1.2).mono ?_;rintro e v3⟨⟨N,ah,F,J,W,O,ab⟩,rfl,q,t⟩;refine P4 q (aa (af ao _) t) fun a9 Q=>?_;clear q t G a4 a1;unfold bw;try simp only
 refine H.out _ _ (Uh Q) (fun G=>?_);clear H K;have M:=(Q.block D (UE.1 a5).1).trans a5;have r:=mG (w:=w) (B:=w.heap.size) (x:=⟨N,ah,F,J,W,O,ab⟩) M hDw (aa a2 Q) a9 (fun k o=>by have h1:=o.1;have t:=o.2;exact⟨Ph,Ph,t⟩);dsimp only at r;refine PF v3 D (Ti Tl N) (Tm ah F J) (Tm W O ab) fun V hV=>?_;rw[hV]at r;have m:=Tn r;have HFV:Hid (Fr (fun k=>k=D) f V):=Tn (by rw[<-hV];exact(((Uh Q).trans (Uz (S:=fun k=>k=D) _ ⟨D,0,U8⟩ _ rfl)).trans (Uz (S:=fun k=>k=D) _ ⟨D,1,U8⟩ _ rfl)).trans (Uz (S:=fun k=>k=D) _ ⟨D,2,U8⟩ _ rfl));have HV:=Tn hV;refine PK M fun e0 am e2=>PL M fun g0 g1 g2=>?_;clear M r hV;refine Vx (rs:=[7]) Pg Pm ?_;refine Va rfl (fun K H=>?_) Vp;go_simp;go_wp2_with fail;rw[HV.out];refine H.out _ _ HFV (fun G=>?_);clear H K e0 am e2 g0 g1 g2;refine wpAnyH_done Pg ?_ _;go_wp2_with fail;exact PK m.1 fun q0 q1 q2=>VC (v:=UT #[Ti Tl N,Tm ah F J,Tm W O ab]) (by simp[Vo,results93,go_sem,q0,q1,q2]) rfl ⟨⟨N,ah,F,J,W,O,ab⟩,rfl,m.2.2,m.2.1⟩
def Gt(c x w)(hC:lF w c x)(hN:kQ c)(o:c.key<9223372036854775808)(hpr:∀p∈c.proms,cR p=true)(hse:c.sig.e<9223372036854775808)(hss:c.sig.s<9223372036854775808):VB UB 203 #[fx c x] w (gF (jv c) w):=by
 refine P9 hC hN o hpr hse hss fun HCC HNN HK HPR HSE HSS=>?_;clear o hpr hse hss;unfold fx;clear hC hN;refine P1 (w.heap.size+1) fun D C=>P1 ((w.alloc (Tq #[Ti Tl c.serial,UH (aL c.issuer),UH (aL c.subject),ag c.key,Tm x.na c.names.length x.nc,Ti Tl c.from_,Ti Tl c.until_,U1 c.ca,Ti Tl c.depth,Tm x.pa c.permit.length x.pc,Tm x.ra c.proms.length x.rc,ag c.sig.e,ag c.sig.s] 97)).alloc (Tq #[Ti Tl 0,zz,zz] 245)) fun f d=>have HE0:=Tn (show aq w f from Pz);have HR0:Hid (f.heap[D]?=Ts (Tq #[Ti Tl 0,zz,zz] 245 (0,0))):=Tn Pn;have HS0:Hid (f.heap.size=D+1):=Tn Qc;have hDw:w.heap.size<=D:=Ph;P1 w.heap.size fun b hb=>have hbD:b≠D:=Ph;?_;have hbl:b<f.heap.size:=by rw[HS0.out];omega
 have HZ0:Hid (f.cell? ⟨b,0,U8⟩=Ts (Ti Tl c.serial)):=Tn Po;have HZ1:Hid (f.cell? ⟨b,1,U8⟩=Ts (UH (aL c.issuer))):=Tn Po;have HZ2:Hid (f.cell? ⟨b,2,U8⟩=Ts (UH (aL c.subject))):=Tn Po;have HZ3:Hid (f.cell? ⟨b,3,U8⟩=Ts (ag c.key)):=Tn Po;have HZ4:Hid (f.cell? ⟨b,4,U8⟩=Ts (Tm x.na c.names.length x.nc)):=Tn Po;have HZ5:Hid (f.cell? ⟨b,5,U8⟩=Ts (Ti Tl c.from_)):=Tn Po;have HZ6:Hid (f.cell? ⟨b,6,U8⟩=Ts (Ti Tl c.until_)):=Tn Po;have HZ7:Hid (f.cell? ⟨b,7,U8⟩=Ts (U1 c.ca)):=Tn Po;have HZ8:Hid (f.cell? ⟨b,8,U8⟩=Ts (Ti Tl c.depth)):=Tn Po;have HZ9:Hid (f.cell? ⟨b,9,U8⟩=Ts (Tm x.pa c.permit.length x.pc)):=Tn Po;have HZ10:Hid (f.cell? ⟨b,10,U8⟩=Ts (Tm x.ra c.proms.length x.rc)):=Tn Po;have bl:Hid (f.cell? ⟨b,11,U8⟩=Ts (ag c.sig.e)):=Tn Po;have HZ12:Hid (f.cell? ⟨b,12,U8⟩=Ts (ag c.sig.s)):=Tn Po;have HC0:Hid (uh (D+1) f []):=Tn ⟨Zap,fun p hp=>Zbw⟩;have g:Hid (∀(m:UN)(i:Nat)(u:UV),Fr (fun k=>k=D) f m->f.cell? ⟨b,i,U8⟩=Ts u->m.cell? ⟨b,i,U8⟩=Ts u):=Tn fun m i u P h=>(P.cell (p:=⟨b,i,U8⟩) hbl hbD).trans h;go_enter func203,ntmps203;go_upto_region 1 with fail;try rw[d]
 try rw[C]
 try rw[hb]
 try rw[show b+1=D from Ph]
 clear d;go_wp2_with fail;try rw[show b+1=D from Ph]
 refine wp_region_held_drew (S:=fun m=>Fr (fun k=>k=D) f m) Pg (Xg _ _) (fun G=>?_);refine Ve (i:=0) (v:=?_) rfl Pg Pg Pg (fun _ _ _ h=>h) (WQ ⟨Q8,fun m l=>?_⟩) G ?_;rotate_left
 .have f0:=g.out m 0 _ l HZ0;have f1:=g.out m 1 _ l HZ1;have f2:=g.out m 2 _ l HZ2;have f3:=g.out m 3 _ l HZ3;have f4:=g.out m 4 _ l HZ4;have f5:=g.out m 5 _ l HZ5;have f6:=g.out m 6 _ l HZ6;have f7:=g.out m 7 _ l HZ7;have f8:=g.out m 8 _ l HZ8;have f9:=g.out m 9 _ l HZ9;have f10:=g.out m 10 _ l HZ10;have f11:=g.out m 11 _ l bl;have f12:=g.out m 12 _ l HZ12;exact TV
 refine Ve (i:=2) (v:=?_) rfl Pg Pg Pg (fun _ _ _ h=>h) (WQ ⟨Q8,fun m l=>?_⟩) G ?_;rotate_left
 .exact TV
 refine Ve (i:=3) (v:=?_) rfl Pg Pg Pg (fun _ _ _ h=>h) (WQ ⟨Q8,fun m l=>?_⟩) G ?_;rotate_left
 .exact TV
 refine Ve (i:=4) (v:=?_) rfl Pg Pg Pg (fun _ _ _ h=>h) (WQ ⟨Q8,fun m l=>?_⟩) G ?_;rotate_left
 .have f0:=g.out m 11 _ l bl;exact TV
 refine Ve (i:=6) (v:=?_) rfl Pg Pg Pg (fun _ _ _ h=>h) (WQ ⟨Q8,fun m l=>?_⟩) G ?_;rotate_left
 .exact TV
 refine Ve (i:=7) (v:=?_) rfl Pg Pg Pg (fun _ _ _ h=>h) (WQ ⟨Q8,fun m l=>?_⟩) G ?_;rotate_left
 .exact TV
 refine Ve (i:=8) (v:=?_) rfl Pg Pg Pg (fun _ _ _ h=>h) (WQ ⟨Q8,fun m l=>?_⟩) G ?_;rotate_left
 .have f0:=g.out m 12 _ l HZ12;exact TV
 refine Vx (rs:=[1]) Pg Pm ?_;refine Va rfl (fun K H=>?_) Vp;go_simp;refine(zN c x _ (HCC.ext (aa HE0 (ap _))) HNN HK HPR).mono ?_;rintro e v1⟨⟨a2,F,an,z,I,ah,O⟩,rfl,j,q⟩;refine P4 ((HC0.ext (ap _)).snoc q j) (aa (ap _) q) fun HC1 HX1=>?_;clear j q G;unfold bw;try simp only
 refine H.out _ _ (Uh HX1) (fun G=>?_);clear H K;refine Vx (rs:=[5]) Pg Pm ?_;refine Va rfl (fun K H=>?_) Vp;go_simp;refine(kK c.sig.e _ HSE).mono ?_;rintro e v2⟨⟨ab,X,a3,ao,A,Y,L⟩,rfl,j,q⟩;refine P4 ((HC1.ext P0).snoc q j) (aa HX1 q) fun HC2 HX2=>?_;clear j q G;unfold bw;try simp only
 refine H.out _ _ (Uh HX2) (fun G=>?_);clear H K;refine Vx (rs:=[9]) Pg Pm ?_;refine Va rfl (fun K H=>?_) Vp;go_simp;refine(kK c.sig.s _ HSS).mono ?_;rintro e v3⟨⟨Q,a4,J,N,ac,U,a0⟩,rfl,j,q⟩;refine P4 ((HC2.ext P0).snoc q j) (aa HX2 q) fun a8 HX3=>?_;clear j q G;unfold bw;try simp only
 refine H.out _ _ (Uh HX3) (fun G=>?_);clear H K;refine Vx (rs:=[10]) Pg Pm ?_;refine Va rfl (fun K H=>?_) Vp;go_simp;refine H.out _ _ (Uh (af HX3 _)) (fun G=>?_);clear H K;have HS23:Hid (uh (D+1) v3 [(cS c.sig.e,⟨ab,X,a3,ao,A,Y,L⟩),(cS c.sig.s,⟨Q,a4,J,N,ac,U,a0⟩)]):=Tn ⟨a8.1,fun p hp=>a8.out.2 p (WW _ hp)⟩;refine P4 (qY v3 [(cS c.sig.e,⟨ab,X,a3,ao,A,Y,L⟩),(cS c.sig.s,⟨Q,a4,J,N,ac,U,a0⟩)] 245) (HS23.ext (af P0 (Tq #[Ti Tl ab,Tm X a3 ao,Tm A Y L,Ti Tl Q,Tm a4 J N,Tm ac U a0] 245))) fun E t=>Vx (rs:=[11]) Pg Pm ?_;refine Va rfl (fun K H=>?_) Vp;go_simp;refine(nf [(cS c.sig.e,⟨ab,X,a3,ao,A,Y,L⟩),(cS c.sig.s,⟨Q,a4,J,N,ac,U,a0⟩)] (Ts ⟨v3.heap.size,0,U8⟩) 2 2 (v3.alloc (Tq #[Ti Tl ab,Tm X a3 ao,Tm A Y L,Ti Tl Q,Tm a4 J N,Tm ac U a0] 245)) rfl (UY _) Pi E (D+1) t.1 t.2).mono ?_;rintro e v4⟨⟨T,al,a1,W,Z,R,ad⟩,rfl,j,q⟩;refine P3 j q (aa (af HX3 _) q) fun HSQ4 bn HX4=>?_;clear j q G E t;unfold bw;try simp only
 have HS14:Hid (uh (D+1) v4 [(du c,⟨a2,F,an,z,I,ah,O⟩),(dO [cS c.sig.e,cS c.sig.s],⟨T,al,a1,W,Z,R,ad⟩)]):=Tn ⟨VG a8.1 (aa (af P0 _) bn).size,fun p hp=>(by
  rcases VN.1 hp with rfl|hp
  .exact(a8.ext (aa (af P0 _) bn)).2 _ (.head _)
  rw[VP]at hp;rw[hp]
  exact HSQ4.out)⟩
 refine H.out _ _ (Uh HX4) (fun G=>?_);clear H K;refine Vx (rs:=[12]) Pg Pm ?_;refine Va rfl (fun K H=>?_) Vp;go_simp;refine H.out _ _ (Uh (af HX4 _)) (fun G=>?_);clear H K;refine P4 (qY v4 [(du c,⟨a2,F,an,z,I,ah,O⟩),(dO [cS c.sig.e,cS c.sig.s],⟨T,al,a1,W,Z,R,ad⟩)] 245) (HS14.ext (af P0 (Tq #[Ti Tl a2,Tm F an z,Tm I ah O,Ti Tl T,Tm al a1 W,Tm Z R ad] 245))) fun E t=>Vx (rs:=[13]) Pg Pm ?_;refine Va rfl (fun K H=>?_) Vp;go_simp;refine(nf [(du c,⟨a2,F,an,z,I,ah,O⟩),(dO [cS c.sig.e,cS c.sig.s],⟨T,al,a1,W,Z,R,ad⟩)] (Ts ⟨v4.heap.size,0,U8⟩) 2 2 (v4.alloc (Tq #[Ti Tl a2,Tm F an z,Tm I ah O,Ti Tl T,Tm al a1 W,Tm Z R ad] 245)) rfl (UY _) Pi E (D+1) t.1 t.2).mono ?_;rintro e v5⟨⟨a6,a5,a7,bc,ba,a9,be⟩,rfl,j,q⟩;refine P4 j (aa (af HX4 _) q) fun HSQ5 bb=>?_;clear j q G E t;unfold bw;try simp only
 refine H.out _ _ (Uh bb) (fun G=>?_);clear H K;have M:=(bb.block D (UE.1 HR0).1).trans HR0;have y:=mG (w:=w) (B:=w.heap.size) (x:=⟨a6,a5,a7,bc,ba,a9,be⟩) M hDw (aa HE0 bb) HSQ5 (fun k o=>by have h1:=o.1;have q:=o.2;exact⟨Ph,Ph,q⟩);dsimp only at y;refine PF v5 D (Ti Tl a6) (Tm a5 a7 bc) (Tm ba a9 be) fun V hV=>?_;rw[hV]at y;have r:=Tn y;have HFV:Hid (Fr (fun k=>k=D) f V):=Tn (by rw[<-hV];exact(((Uh bb).trans (Uz (S:=fun k=>k=D) _ ⟨D,0,U8⟩ _ rfl)).trans (Uz (S:=fun k=>k=D) _ ⟨D,1,U8⟩ _ rfl)).trans (Uz (S:=fun k=>k=D) _ ⟨D,2,U8⟩ _ rfl));have HV:=Tn hV;refine PK M fun e0 am e2=>PL M fun g0 g1 g2=>?_;clear M y hV;refine Vx (rs:=[14]) Pg Pm ?_;refine Va rfl (fun K H=>?_) Vp;go_simp;go_wp2_with fail;rw[HV.out];refine H.out _ _ HFV (fun G=>?_);clear H K e0 am e2 g0 g1 g2;refine wpAnyH_done Pg ?_ _;go_wp2_with fail;exact PK r.1 fun q0 q1 q2=>VC (v:=UT #[Ti Tl a6,Tm a5 a7 bc,Tm ba a9 be]) (by simp[Vo,results203,go_sem,q0,q1,q2]) rfl ⟨⟨a6,a5,a7,bc,ba,a9,be⟩,rfl,r.2.2,r.2.1⟩
def eL{c}(h:dr c=true):c.key<9223372036854775808/\(∀p∈c.proms,cR p=true)/\c.sig.e<9223372036854775808/\c.sig.s<9223372036854775808:=by
 obtain⟨h1,_,_,_,b,_,_⟩:=ji h;have o:c.key<2305843009213691579:=b;have z:ik c.sig=true:=by
  have A:=h;rw[wX,h1,Wo]at A;split at A
  .cases A
  split at A
  .cases A
  next hb=>
  unfold adH at hb;simp only[WU,not_or,Wh,Bool.not_eq_false]at hb;exact hb.2.2.2.2
 unfold ik at z;rw[decide_eq_true_eq]at z;have d:max c.sig.e c.sig.s<1152921504606845789:=z;exact⟨Ph,qd _ _ h1,Ph,Ph⟩
def kV{s:au}(h:s.length<=1000000):bi (cg s):=by
 unfold cg;rw[bi,b8];exact⟨h,VF _,trivial⟩
def rO:∀b:au,(dY b).length<=b.length
 |[]=>SE
 |[_]=>SE
 |x::y::t=>by
  rw[dY];split
  .exact UY _
  have:=rO (y::t);simp only[Up]at this⊢;omega
def gO(n):bi (cS n):=by
 unfold cS;rw[bi,b8];have:=rO (be 8 n);rw[aI]at this;exact⟨Ph,VF _,trivial⟩
def ft{l:List aQ}(h:l.length<=1000000)(b:∀y∈l,bi y):bi (dO l):=by
 unfold dO;rw[bi];refine⟨VF _,h,?_⟩;clear h;induction l with
 |nil=>rw[b8];trivial
 |cons y l c=>rw[b8];exact⟨b y (.head _),c fun z d=>b z (.tail _ d)⟩
def wu{c}(b:kQ c):bi (fI c):=by
 unfold fI;refine ft Pm fun y U=>?_;simp only[PD]at U;rcases U with rfl|rfl|rfl|rfl|rfl|rfl|rfl|rfl|rfl|rfl
 .exact gO _
 .exact kV b.iss
 .exact kV b.sub
 .exact gO _
 .exact ft (by rw[VR];exact b.nl) fun z f=>by obtain⟨s,d,rfl⟩:=Wl.1 f;exact kV (b.nms s d)
 .exact gO _
 .exact gO _
 .unfold kY;rw[bi,b8];exact⟨Pm,VF _,trivial⟩
 .exact gO _
 exact ft (by rw[VR];exact b.pl) fun z f=>by obtain⟨s,d,rfl⟩:=Wl.1 f;exact kV (b.prt s d)
def BQ(p):bi (fZ p):=by
 unfold fZ;refine ft Pm fun y U=>?_;simp only[PD]at U;rcases U with rfl|rfl|rfl|rfl|rfl|rfl<;>exact gO _
def s9{c}(b:kQ c):bi (du c):=by
 unfold du;refine ft Pm fun y U=>?_;simp only[PD]at U;rcases U with rfl|rfl
 .exact wu b
 exact ft (by rw[VR];exact b.rl) fun z d=>by obtain⟨p,_,rfl⟩:=Wl.1 d;exact BQ p
def AX{c}(b:kQ c):bi (jv c):=by
 unfold jv;refine ft Pm fun y U=>?_;simp only[PD]at U;rcases U with rfl|rfl
 .exact s9 b
 refine ft Pm fun y U=>?_;simp only[PD]at U;rcases U with rfl|rfl<;>exact gO _
def vw(c x w)(hC:lF w c x)(hN:kQ c)(H:aU w):VB UB 145 #[fx c x] w (bM (Ti Tl (bG c)) w):=by
 have A:=fun(W:UN)(g:aq w W)(cf:dr c=true)=>Gt c x W (hC.ext g) hN (eL cf).1 (eL cf).2.1 (eL cf).2.2.1 (eL cf).2.2.2;have p:=fun(h:dr c=true)=>VG (iK h).1 (show 100000<=100000000 from Pi);have j:bG c=if dr c=false then 1 else if pG (jv c)≠0\/2048<(cy (jv c)).length then 2 else 0:=rfl
 have y:=AX hN;refine P1 (jv c) fun Y hY=>P1 (bG c) fun o ad=>?_;rw[hY]at A j p y;rw[ad]at j⊢;refine PG hC hN H p A j y fun HC HN HK HL N R HSM=>P1 w.heap.size fun D C=>P1 (w.alloc (Tq #[Ti Tl c.serial,UH (aL c.issuer),UH (aL c.subject),ag c.key,Tm x.na c.names.length x.nc,Ti Tl c.from_,Ti Tl c.until_,U1 c.ca,Ti Tl c.depth,Tm x.pa c.permit.length x.pc,Tm x.ra c.proms.length x.rc,ag c.sig.e,ag c.sig.s] 97)) fun f d=>have B:=Tn (show aq w f from Pq);have ao:Hid (f.cell? ⟨D,0,U8⟩=Ts (Ti Tl c.serial)):=Tn Pk;have al:Hid (f.cell? ⟨D,1,U8⟩=Ts (UH (aL c.issuer))):=Tn Pk;have ab:Hid (f.cell? ⟨D,2,U8⟩=Ts (UH (aL c.subject))):=Tn Pk;have U:Hid (f.cell? ⟨D,3,U8⟩=Ts (ag c.key)):=Tn Pk;have ac:Hid (f.cell? ⟨D,4,U8⟩=Ts (Tm x.na c.names.length x.nc)):=Tn Pk;have M:Hid (f.cell? ⟨D,5,U8⟩=Ts (Ti Tl c.from_)):=Tn Pk;have T:Hid (f.cell? ⟨D,6,U8⟩=Ts (Ti Tl c.until_)):=Tn Pk;have P:Hid (f.cell? ⟨D,7,U8⟩=Ts (U1 c.ca)):=Tn Pk;have am:Hid (f.cell? ⟨D,8,U8⟩=Ts (Ti Tl c.depth)):=Tn Pk;have Q:Hid (f.cell? ⟨D,9,U8⟩=Ts (Tm x.pa c.permit.length x.pc)):=Tn Pk;have r:Hid (f.cell? ⟨D,10,U8⟩=Ts (Tm x.ra c.proms.length x.rc)):=Tn Pk;have l:Hid (f.cell? ⟨D,11,U8⟩=Ts (ag c.sig.e)):=Tn Pk;have u:Hid (f.cell? ⟨D,12,U8⟩=Ts (ag c.sig.s)):=Tn Pk;?_;unfold fx at N⊢;clear j hY ad;go_enter func145,ntmps145;go_upto_region 1 with fail;try rw[d]
 try rw[C]
 clear d C;have z0:=ae ao (Below.refl _ f);have z1:=ae al (Below.refl _ f);have z2:=ae ab (Below.refl _ f);have z3:=ae U (Below.refl _ f);have z4:=ae ac (Below.refl _ f);have z5:=ae M (Below.refl _ f);have z6:=ae T (Below.refl _ f);have z7:=ae P (Below.refl _ f);have z8:=ae am (Below.refl _ f);have z9:=ae Q (Below.refl _ f);have z:=ae r (Below.refl _ f);have G:=ae l (Below.refl _ f);have K:=ae u (Below.refl _ f);go_wp2_with fail;refine P2 (Ds c x f (HC.ext B) HN) fun t q=>have J:=Tn q;have z0:=ae ao q;have z1:=ae al q;have z2:=ae ab q;have z3:=ae U q;have z4:=ae ac q;have z5:=ae M q;have z6:=ae T q;have z7:=ae P q;have z8:=ae am q;have z9:=ae Q q;have z:=ae r q;have G:=ae l q;have K:=ae u q;?_;cases cf:dr c with
 |false=>
  have Z:Hid (o=1):=Tn (by rw[R.out,if_pos cf]);go_wp2;go_ret;exact⟨Ps,aa B J⟩
 |true=>
  have Z:Hid (o=if pG Y≠0\/2048<(cy Y).length then 2 else 0):=Tn (by rw[R.out,if_neg (by rw[cf];decide)]);refine P4 (N t (aa B J) cf) (HL cf) fun HW1 HL2=>?_;go_wp2_with fail;refine HW1.out.mono ?_;rintro e I⟨⟨xt,xba,xbl,xbc,xla,xll,xlc⟩,rfl,ah,an⟩;refine P4 (aa B (aa J an)) ah fun F HIN=>?_;go_wp2_with fail;refine(Iy Y ⟨xt,xba,xbl,xbc,xla,xll,xlc⟩ I (HK.ext F) HIN.now HSM HL2).mono ?_;rintro e O⟨v,rfl,a0,S,V⟩;refine P3 (aa F V) a0 S fun Id HOK HNO=>?_;by_cases m:pG Y=0
  .have ho:=HOK.out m;obtain⟨a,cc,rfl,_,_,_⟩:=fQ rfl ho;refine P1 ((cy Y).length) fun n hn=>?_;rw[hn];have X:Hid (o=if 2048<n then 2 else 0):=Tn (by rw[Z.out,hn];by_cases h:2048<n<;>simp[m,h]);rw[m];clear hn;by_cases h2:2048<n
   .have b:Hid (o=2):=Tn (by rw[X.out,if_pos h2]);exact Ue
   have b:Hid (o=0):=Tn (by rw[X.out,if_neg h2]);exact Ue
  have b:Hid (o=2):=Tn (by rw[Z.out,if_pos (.inl m)]);obtain rfl:=HNO.out m;have L:(pG Y !=0)=true:=by simp[m]
  refine P1 (pG Y) fun E g=>?_;rw[g]at L⊢;clear g;exact Ue
def wo(c:ff)(y:aQ)(w:UN)(e:Xo)(b:UN):Prop:=∃v,e=UO (UW #[v,Ti Tl (cB c y)])/\(cB c y=0->b.ownsRow w.heap.size 5 1 v (cy y).length (Lib.byteCells (cy y)))/\(cB c y≠0->v=zz)/\aq w b
def vO(c x)(y:aQ)(F w)(hC:lF w c x)(hN:kQ c)(H:aU w)(U:bi y)(R:dr c=true->(cy y).length<=100000000)(eg:∀args w,(Wu F args).run UB w= .ok (.enter F args) w)(P:dr c=true->∀W,aq w W->VB UB F #[fx c x] W (gF y W)):VB UB 80 #[fx c x,.func (.func F) #[] #[]] w (wo c y w):=by
 refine PG hC hN H P U R (fun W(g:aq w W)=>vw c x W (hC.ext g) hN (H.ext g)) fun HC HN HK T HY HLY ab=>P1 w.heap.size fun D C=>P1 (w.alloc (Tq #[Ti Tl c.serial,UH (aL c.issuer),UH (aL c.subject),ag c.key,Tm x.na c.names.length x.nc,Ti Tl c.from_,Ti Tl c.until_,U1 c.ca,Ti Tl c.depth,Tm x.pa c.permit.length x.pc,Tm x.ra c.proms.length x.rc,ag c.sig.e,ag c.sig.s] 97)) fun f d=>have B:=Tn (show aq w f from Pq);have ac:Hid (f.cell? ⟨D,0,U8⟩=Ts (Ti Tl c.serial)):=Tn Pk;have J:Hid (f.cell? ⟨D,1,U8⟩=Ts (UH (aL c.issuer))):=Tn Pk;have ad:Hid (f.cell? ⟨D,2,U8⟩=Ts (UH (aL c.subject))):=Tn Pk;have N:Hid (f.cell? ⟨D,3,U8⟩=Ts (ag c.key)):=Tn Pk;have ah:Hid (f.cell? ⟨D,4,U8⟩=Ts (Tm x.na c.names.length x.nc)):=Tn Pk;have Q:Hid (f.cell? ⟨D,5,U8⟩=Ts (Ti Tl c.from_)):=Tn Pk;have L:Hid (f.cell? ⟨D,6,U8⟩=Ts (Ti Tl c.until_)):=Tn Pk;have K:Hid (f.cell? ⟨D,7,U8⟩=Ts (U1 c.ca)):=Tn Pk;have X:Hid (f.cell? ⟨D,8,U8⟩=Ts (Ti Tl c.depth)):=Tn Pk;have M:Hid (f.cell? ⟨D,9,U8⟩=Ts (Tm x.pa c.permit.length x.pc)):=Tn Pk;have p:Hid (f.cell? ⟨D,10,U8⟩=Ts (Tm x.ra c.proms.length x.rc)):=Tn Pk;have m:Hid (f.cell? ⟨D,11,U8⟩=Ts (ag c.sig.e)):=Tn Pk;have r:Hid (f.cell? ⟨D,12,U8⟩=Ts (ag c.sig.s)):=Tn Pk;?_;unfold fx at T ab⊢;go_enter func80,ntmps80;go_upto_region 1 with fail;try rw[d]
 try rw[C]
 have z0:=ae ac (Below.refl _ f);have z1:=ae J (Below.refl _ f);have z2:=ae ad (Below.refl _ f);have z3:=ae N (Below.refl _ f);have z4:=ae ah (Below.refl _ f);have z5:=ae Q (Below.refl _ f);have z6:=ae L (Below.refl _ f);have z7:=ae K (Below.refl _ f);have z8:=ae X (Below.refl _ f);have z9:=ae M (Below.refl _ f);have j:=ae p (Below.refl _ f);have l:=ae m (Below.refl _ f);have b:=ae r (Below.refl _ f);go_wp2_with fail;refine P2 (ab f B) fun t q=>have u:=Tn (aa B q);have z0:=ae ac q;have z1:=ae J q;have z2:=ae ad q;have z3:=ae N q;have z4:=ae ah q;have z5:=ae Q q;have z6:=ae L q;have z7:=ae K q;have z8:=ae X q;have z9:=ae M q;have j:=ae p q;have l:=ae m q;have b:=ae r q;?_;by_cases o:bG c=0
 .have Z:Hid (cB c y=pG y):=Tn (by unfold cB;rw[if_neg (fun h=>h o)]);have am:=Tn (fw o).1;rw[o];go_wp2_with fail;refine(T am t u).mono ?_;rintro e I⟨⟨xt,xba,xbl,xbc,xla,xll,xlc⟩,rfl,A,Y⟩;refine P4 (aa u Y) A fun z HIN=>?_;go_wp2_with fail;refine(Iy y ⟨xt,xba,xbl,xbc,xla,xll,xlc⟩ I (HK.ext z) HIN.now HY (HLY am)).mono ?_;rintro e O⟨v,rfl,al,G,V⟩;refine P5 (aa z V) al G z.out.size fun Id HOK HNO HSZ=>?_;go_wp2;go_ret2
  exact⟨v,Ps,fun h=>jV (HOK (by rw[<-Z.out];exact h)) HSZ,fun h=>HNO.out (by rw[<-Z.out];exact h),Id⟩
 have Z:Hid (cB c y=bG c):=Tn (by unfold cB;rw[if_pos o]);have hk2:(bG c !=0)=true:=Zbt;have S:=Tn o;refine P1 (bG c) fun E g=>?_;rw[g]at hk2 Z S⊢;go_wp2;go_ret2
 exact⟨zz,Ps,fun h=>absurd (Z.symm.trans h) S,fun _=>rfl,u⟩
def DD(c x w)(M:lF w c x)(p:kQ c)(H:aU w):VB UB 27 #[fx c x] w (wo c (fI c) w):=by
 have T:=Tn (fun W(g:aq w W)=>vO c x (fI c) 81 W (M.ext g) p (H.ext g) (wu p) (fun h=>VG (iK h).2.2 Pi) (Vv func81 Pg rfl) (fun cf W' G=>DZ c x W' (M.ext (aa g G)) p (eL cf).1));refine P1 w.heap.size fun D C=>P1 (w.alloc (Tq #[Ti Tl c.serial,UH (aL c.issuer),UH (aL c.subject),ag c.key,Tm x.na c.names.length x.nc,Ti Tl c.from_,Ti Tl c.until_,U1 c.ca,Ti Tl c.depth,Tm x.pa c.permit.length x.pc,Tm x.ra c.proms.length x.rc,ag c.sig.e,ag c.sig.s] 97)) fun f d=>have B:=Tn (show aq w f from Pq);have Q:Hid (f.cell? ⟨D,0,U8⟩=Ts (Ti Tl c.serial)):=Tn Pk;have u:Hid (f.cell? ⟨D,1,U8⟩=Ts (UH (aL c.issuer))):=Tn Pk;have R:Hid (f.cell? ⟨D,2,U8⟩=Ts (UH (aL c.subject))):=Tn Pk;have E:Hid (f.cell? ⟨D,3,U8⟩=Ts (ag c.key)):=Tn Pk;have S:Hid (f.cell? ⟨D,4,U8⟩=Ts (Tm x.na c.names.length x.nc)):=Tn Pk;have J:Hid (f.cell? ⟨D,5,U8⟩=Ts (Ti Tl c.from_)):=Tn Pk;have z:Hid (f.cell? ⟨D,6,U8⟩=Ts (Ti Tl c.until_)):=Tn Pk;have y:Hid (f.cell? ⟨D,7,U8⟩=Ts (U1 c.ca)):=Tn Pk;have L:Hid (f.cell? ⟨D,8,U8⟩=Ts (Ti Tl c.depth)):=Tn Pk;have A:Hid (f.cell? ⟨D,9,U8⟩=Ts (Tm x.pa c.permit.length x.pc)):=Tn Pk;have l:Hid (f.cell? ⟨D,10,U8⟩=Ts (Tm x.ra c.proms.length x.rc)):=Tn Pk;have j:Hid (f.cell? ⟨D,11,U8⟩=Ts (ag c.sig.e)):=Tn Pk;have m:Hid (f.cell? ⟨D,12,U8⟩=Ts (ag c.sig.s)):=Tn Pk;?_;unfold fx at T⊢;go_enter func27,ntmps27;exact T8
def Lj(c x w)(M:lF w c x)(p:kQ c)(H:aU w):VB UB 29 #[fx c x] w (wo c (du c) w):=by
 have T:=Tn (fun W(g:aq w W)=>vO c x (du c) 93 W (M.ext g) p (H.ext g) (s9 p) (fun h=>VG (iK h).2.1 Pi) (Vv func93 Pg rfl) (fun cf W' G=>zN c x W' (M.ext (aa g G)) p (eL cf).1 (eL cf).2.1));refine P1 w.heap.size fun D C=>P1 (w.alloc (Tq #[Ti Tl c.serial,UH (aL c.issuer),UH (aL c.subject),ag c.key,Tm x.na c.names.length x.nc,Ti Tl c.from_,Ti Tl c.until_,U1 c.ca,Ti Tl c.depth,Tm x.pa c.permit.length x.pc,Tm x.ra c.proms.length x.rc,ag c.sig.e,ag c.sig.s] 97)) fun f d=>have B:=Tn (show aq w f from Pq);have Q:Hid (f.cell? ⟨D,0,U8⟩=Ts (Ti Tl c.serial)):=Tn Pk;have u:Hid (f.cell? ⟨D,1,U8⟩=Ts (UH (aL c.issuer))):=Tn Pk;have R:Hid (f.cell? ⟨D,2,U8⟩=Ts (UH (aL c.subject))):=Tn Pk;have E:Hid (f.cell? ⟨D,3,U8⟩=Ts (ag c.key)):=Tn Pk;have S:Hid (f.cell? ⟨D,4,U8⟩=Ts (Tm x.na c.names.length x.nc)):=Tn Pk;have J:Hid (f.cell? ⟨D,5,U8⟩=Ts (Ti Tl c.from_)):=Tn Pk;have z:Hid (f.cell? ⟨D,6,U8⟩=Ts (Ti Tl c.until_)):=Tn Pk;have y:Hid (f.cell? ⟨D,7,U8⟩=Ts (U1 c.ca)):=Tn Pk;have L:Hid (f.cell? ⟨D,8,U8⟩=Ts (Ti Tl c.depth)):=Tn Pk;have A:Hid (f.cell? ⟨D,9,U8⟩=Ts (Tm x.pa c.permit.length x.pc)):=Tn Pk;have l:Hid (f.cell? ⟨D,10,U8⟩=Ts (Tm x.ra c.proms.length x.rc)):=Tn Pk;have j:Hid (f.cell? ⟨D,11,U8⟩=Ts (ag c.sig.e)):=Tn Pk;have m:Hid (f.cell? ⟨D,12,U8⟩=Ts (ag c.sig.s)):=Tn Pk;?_;unfold fx at T⊢;go_enter func29,ntmps29;exact T8
def ws{d}(g:∀(s:au)(y:aQ)(r:au),dh d s= .ok (y,r)->s.length<=1000000->bi y):∀(f:Nat)(s:au)(l:List aQ),nI (dh d) f s= .ok l->s.length<=1000000->b8 l
 |f,[],l,h,_=>by rw[xe]at h;cases h;rw[b8];trivial
 |0,c::t,l,h,_=>by rw[nI,if_neg Pm]at h;cases h
 |f+1,c::t,l,h,z=>by
  rw[ph Pm]at h;cases S:dh d (c::t)with
  |error e=>rw[S]at h;cases h
  |ok p=>
   obtain⟨y,r⟩:=p;rw[S]at h;dsimp only at h;cases b:nI (dh d) f r with
   |error e=>rw[b]at h;cases h
   |ok k=>
    rw[b]at h;cases h;rw[b8];exact⟨g _ _ _ S z,ws g f r k b (by have:=pz S;omega)⟩
def vI:∀(d:Nat)(s:au)(y:aQ)(r:au),dh d s= .ok (y,r)->s.length<=1000000->bi y
 |d,[],y,r,h,_=>by rw[vJ]at h;cases h
 |0,_::_,y,r,h,_=>Rw
 |d+1,c::t,y,r,h,z=>by
  rw[Up]at z;cases o:cC c.toNat with
  |false=>rw[qV o]at h;cases h
  |true=>
   cases g:gU t with
   |error e=>rw[uT o g]at h;cases h
   |ok p=>
    obtain⟨n,b⟩:=p;by_cases hb:8192<1+b+n
    .rw[Dc o g hb]at h;cases h
    by_cases f:t.length-b<n
    .rw[vx o g hb f]at h;cases h
    have hi:((t.drop b).take n).length<=1000000:=by rw[VZ,VT];omega
    by_cases J:c.toNat=48
    .rw[wJ o g hb f J,vt]at h;cases N:nI (dh d) ((t.drop b).take n).length ((t.drop b).take n)with
     |error e=>rw[N]at h;cases h
     |ok l=>
      rw[N]at h;cases h;rw[bi];exact⟨VF _,VG (Dj N) hi,ws (vI d) _ _ _ N hi⟩
    rw[sI o g hb f J]at h;split at h
    .cases h;rw[bi,b8];exact⟨hi,VF _,trivial⟩
    cases h
def acI(X:List aQ->Option ff)(b:au):Except Int ff:=match dh 8 b with
 | .error e=> .error e
 | .ok (x,rest)=>if rest≠[]then .error 71 else match (bO x).bind X with
  |none=> .error 71
  |some c=>if bG c=0 then .ok c else .error 71
def J0(b:au):acI eI b=cz b:=rfl
def Hc(r:Except Int ff)(w:UN)(e:Xo)(b:UN):Prop:=∃u k,e=UO (UW #[u,Ti Tl k])/\aq w b/\match r with
 | .error x=>u=UT #[Ti Tl 0,UH ⟨#[]⟩,UH ⟨#[]⟩,Ti Tt 0,zz,Ti Tl 0,Ti Tl 0,U1 false,Ti Tl 0,zz,zz,Ti Tt 0,Ti Tt 0]/\k=x
 | .ok c=>k=0/\kQ c/\∃x,u=fx c x/\gP (ta w.heap.size b.heap.size) b (fun d=>lF d c x)
def oX{ev:UV}{r:Except Int ff}{a0 a1 j:UV}(l1:aS wr D 97 f 13)(l2:VX wr (D+1) 34 ev)(g:aq w wr)(C:w.heap.size=D)(t:r= .error 71):
  bodyPostD UB f95 (Hc r w) (Exit.panic [{v:= .iface 262 (UT #[]),recovered:=false}])
   {tmps:=#[a0,a1,a2,a3,UK (Ts ⟨D,0,U8⟩),UK (Ts ⟨D+1,0,U8⟩),a6,a7,a8,a9,a10,a11,a12,a13,a14,a15,a16,a17,a18,a19,a20,a21,a22,a23,a24,a25,a26,a27,a28,a29,a30,a31,j],defers:=[{target:=Target.fn (Fn.func 161) #[UK (Ts ⟨D,0,U8⟩),UK (Ts ⟨D+1,0,U8⟩)],args:=#[]}]} wr:=by
 refine leaves_cons (f:=161) (args:=#[UK (Ts ⟨D,0,U8⟩),UK (Ts ⟨D+1,0,U8⟩)]) Pm Zaz ?_;refine(Mr D f ev [] wr l1 l2).mono ?_;rintro e E b⟨rfl,rfl,s,y,P⟩;refine Nu s (Ti Tl 0) (UH ⟨#[]⟩) (UH ⟨#[]⟩) (Ti Tt 0) (zz) (Ti Tl 0) (Ti Tl 0) (U1 false) (Ti Tl 0) (zz) (zz) (Ti Tt 0) (Ti Tt 0) rfl fun q0 q1 q2 B p z q A x o l m d=>have c1:=y.cell;have c:aq w b:=((Uh (S:=fun _=>False) g).onto P (fun i hi e=>by rcases e with e|e<;>omega)).ext (fun _ _ h=>h);have u:Hc r w (UO (UW #[UT #[Ti Tl 0,UH ⟨#[]⟩,UH ⟨#[]⟩,Ti Tt 0,zz,Ti Tl 0,Ti Tl 0,U1 false,Ti Tl 0,zz,zz,Ti Tt 0,Ti Tt 0],Ti Tl 71])) b:=⟨_,_,rfl,c,by rw[t];exact⟨rfl,rfl⟩⟩;?_;simp[Leaves,settle,Vo,results95,go_sem,q0,q1,q2,B,p,z,q,A,x,o,l,m,d,c1,u]
def NO{c x}{r:Except Int ff}{a0 a1 d:UV}(l1:aS wr D 97 (pE c x) 13)(l2:VX wr (D+1) 34 (Ti Tl 0))(g:aq w wr)(t:r= .ok c)(J:gP (ta w.heap.size wr.heap.size) wr (fun A=>lF A c x))(hn:kQ c):
  bodyPostD UB f95 (Hc r w) Exit.ret
   {tmps:=#[a0,a1,a2,a3,UK (Ts ⟨D,0,U8⟩),UK (Ts ⟨D+1,0,U8⟩),a6,a7,a8,a9,a10,a11,a12,a13,a14,a15,a16,a17,a18,a19,a20,a21,a22,a23,a24,a25,a26,a27,a28,a29,a30,a31,d],defers:=[{target:=Target.fn (Fn.func 161) #[UK (Ts ⟨D,0,U8⟩),UK (Ts ⟨D+1,0,U8⟩)],args:=#[]}]} wr:=by
 refine leaves_cons (f:=161) (args:=#[UK (Ts ⟨D,0,U8⟩),UK (Ts ⟨D+1,0,U8⟩)]) Pm Zaz ?_;refine(L0 D (D+1) wr).mono ?_;rintro e E b⟨rfl,rfl,rfl⟩;refine Nu l1 (Ti Tl c.serial) (UH (aL c.issuer)) (UH (aL c.subject)) (ag c.key) (Tm x.na c.names.length x.nc) (Ti Tl c.from_) (Ti Tl c.until_) (U1 c.ca) (Ti Tl c.depth) (Tm x.pa c.permit.length x.pc) (Tm x.ra c.proms.length x.rc) (ag c.sig.e) (ag c.sig.s) rfl fun q0 q1 q2 z C q p y B o j m l=>have c1:=l2.cell;have u:Hc r w (UO (UW #[fx c x,Ti Tl 0])) b:=⟨_,_,rfl,g,by rw[t];exact⟨rfl,hn,x,rfl,J⟩⟩;?_;unfold fx at u;simp[Leaves,settle,Vo,results95,go_sem,q0,q1,q2,z,C,q,p,y,B,o,j,m,l,c1,u]
def qo{b}(h:VX w b t v):w.setCell ⟨b,0,U8⟩ v=w:=by
 have c:(w.setCell ⟨b,0,U8⟩ v).heap=w.heap:=by
  refine Yc fun i=>?_;rcases Nat.decEq i b with e|e
  .unfold XY;rw[Array.getElem?_modify,if_neg (fun h=>e h.symm)]
  subst e;exact(ZF v h).trans h.symm
 cases w;unfold XY at c⊢;dsimp only at c⊢;rw[c]
def LT(F)(X:List aQ->Option ff)(s:au)(v w)(H:aU w)(hv:aJ w v s)(hl:s.length<=1000000)(eg:∀args w,(Wu F args).run UB w= .ok (.enter F args) w)(P:∀(l:List aQ)(rb:Nat)(W:UN),mv W rb l->VB UB F #[UK (Ts ⟨rb,0,U8⟩)] W (bD (·=rb) (X l) W (ae5 W))):VB UB 95 #[v,.func (.func F) #[] #[]] w (Hc (acI X s) w):=by
 obtain⟨a,C,rfl,hnC,hCm,hb⟩:=hv;refine P3 H P hl fun HKW HFN HLS=>P1 w.heap.size fun D hD=>P1 ((w.alloc (Tq #[Ti Tl 0,UH ⟨#[]⟩,UH ⟨#[]⟩,Ti Tt 0,zz,Ti Tl 0,Ti Tl 0,U1 false,Ti Tl 0,zz,zz,Ti Tt 0,Ti Tt 0] 97)).alloc (Tq #[Ti Tl 0] 34)) fun f d=>have B:=Tn (show aq w f from Pz);?_
 have HR0:Hid (aS f D 97 oL 13):=Tn (by
  have h1:aS (w.alloc (Tq #[Ti Tl 0,UH ⟨#[]⟩,UH ⟨#[]⟩,Ti Tt 0,zz,Ti Tl 0,Ti Tl 0,U1 false,Ti Tl 0,zz,zz,Ti Tt 0,Ti Tt 0] 97)) D 97 oL 13:=by rw[<-hD];exact(UZ _ _).trans (congrArg (fun r=>Ts (Tq r 97 (0,0))) (mH #[Ti Tl 0,UH ⟨#[]⟩,UH ⟨#[]⟩,Ti Tt 0,zz,Ti Tl 0,Ti Tl 0,U1 false,Ti Tl 0,zz,zz,Ti Tt 0,Ti Tt 0] VM).symm)
  rw[<-d];exact h1.ext (af P0 _))
 have HB0:Hid (VX f (D+1) 34 (Ti Tl 0)):=Tn (by rw[<-d,<-hD];have:=Wt (w.alloc (Tq #[Ti Tl 0,UH ⟨#[]⟩,UH ⟨#[]⟩,Ti Tt 0,zz,Ti Tl 0,Ti Tl 0,U1 false,Ti Tl 0,zz,zz,Ti Tt 0,Ti Tt 0] 97)) 34 (Ti Tl 0);rwa[Ud]at this);have HG:=Tn (OF s (Tm a s.length C) f (H.ext B) ⟨_,_,rfl,hnC,hCm,hb.ext B⟩ Ph)
 have O:Hid (acI X s=match dh 8 s with
  | .error e=> .error e
  | .ok (x,rest)=>if rest≠[]then .error 71 else match (bO x).bind X with
   |none=> .error 71
   |some c=>if bG c=0 then .ok c else .error 71):=Tn rfl
 refine P1 (acI X s) fun R hR=>?_;rw[hR]at O⊢;refine P1 s.length fun N hN=>have HN:=Tn hN;?_;rw[hN]at hnC HG⊢;have ah:=Tn hD;clear H P hl hb hR hN;go_enter_defers func95,ntmps95
 go_upto_region 1 with fail;try rw[d]
 try rw[hD]
 clear d;go_wp2_with fail;try rw[hD]
 refine HG.out.mono ?_;rintro e W1⟨u,n,k,rfl,q,U⟩;refine P3 (aa B q) (HR0.ext q) (aC q HB0) fun HE1 HR1 HB1=>?_;clear q HG;cases hg:dh 8 s with
 |error x=>
  rw[hg]at U O;obtain⟨hu,rfl,rfl⟩:=U;obtain rfl:u=UT #[Ti Tl 0,zz,zz]:=hu;have hk0:(k !=0)=true:=by rcases rB hg with rfl|rfl<;>rfl
  clear hg;have M:=Tn (HB1.alloc (Tq #[Ti Tl 0,zz,zz] 245));have c1:=M.out.cell;have f1:=M.out.frozen;refine P1 ((W1.alloc (Tq #[Ti Tl 0,zz,zz] 245)).setCell ⟨D+1,0,U8⟩ (Ti Tl k)) fun g z=>have J:Hid (VX g (D+1) 34 (Ti Tl k)):=Tn (by rw[<-z];exact ZF _ M);have ao:Hid (aS g D 97 oL 13):=Tn (by rw[<-z];exact(HR1.ext (af P0 _)).other Ph 0 _);have Id:Hid (aq w g):=Tn (by rw[<-z];exact((Uh (S:=fun _=>False) (af HE1 _)).onto (Uz (S:=fun b=>b=D+1) _ ⟨D+1,0,U8⟩ _ rfl) (fun i hi e=>Sx)).ext (fun _ _ h=>h));?_;go_upto_region 2 with fail;try rw[z]
  clear z c1 f1;have c1:=J.out.cell;go_upto_region 3 with fail;refine wp_region_noPanic ?_;refine s8 (fun w'=>w'.cell? ⟨D+1,0,U8⟩=Ts (Ti Tl k)) 3 Pg c1 (fun G=>?_);clear c1;refine P3 (ao.ext (ap g)) (aC (ap g) J) (aa Id (ap g)) fun HR4 HB4 HE4=>ZQ (i:=0) (v:=UT #[Ti Tl 0,UH ⟨#[]⟩,UH ⟨#[]⟩,Ti Tt 0,zz,Ti Tl 0,Ti Tl 0,U1 false,Ti Tl 0,zz,zz,Ti Tt 0,Ti Tt 0]) rfl Pg Pg (fun _ _ _ h=>h) _ _ _ _ Pg Pg (WQ ⟨Q8,fun w' hS=>?_⟩) G ?_
  .exact TV
  refine ZQ (i:=1) (v:=Ti Tl k) rfl Pg Pg (fun _ _ _ h=>h) _ _ _ _ Pg Pg (WQ ⟨Q8,fun w' hS=>?_⟩) G ?_
  .exact TV
  refine ZE (i:=2) Pg rfl (fun K H=>?_);rw[if_pos Q8];refine wp_store_row 97 _ _ rfl D #[Ti Tl 0,UH ⟨#[]⟩,UH ⟨#[]⟩,Ti Tt 0,zz,Ti Tl 0,Ti Tl 0,U1 false,Ti Tl 0,zz,zz,Ti Tt 0,Ti Tt 0] rfl rfl 97 (fK oL 13) HR4 Pg TC Pu ?_;refine P1 (g.drew.setRow D #[Ti Tl 0,UH ⟨#[]⟩,UH ⟨#[]⟩,Ti Tt 0,zz,Ti Tl 0,Ti Tl 0,U1 false,Ti Tl 0,zz,zz,Ti Tt 0,Ti Tt 0]) fun T L=>?_;rw[L];have HF5:Hid (Fr (fun b=>b=D) g.drew T):=Tn (by rw[<-L];exact bH _ _ _);have HR5:Hid (aS T D 97 (fun i=>(#[Ti Tl 0,UH ⟨#[]⟩,UH ⟨#[]⟩,Ti Tt 0,zz,Ti Tl 0,Ti Tl 0,U1 false,Ti Tl 0,zz,zz,Ti Tt 0,Ti Tt 0]:Array UV).getD i VM) 13):=Tn (by rw[<-L];exact iL HR4 rfl);have a1:=Tn (HF5.boxed HB4 (fun e=>Zaj));have c5:=a1.out.cell;have f5:=a1.out.frozen;refine H.out _ _ (fun _=>c5) ?_;clear L H G K;refine ZE (i:=3) Pg rfl (fun K H=>?_);go_simp;refine H.out _ _ (fun h=>absurd rfl h) ?_;clear H K;refine bj.done Pg ?_ _;refine P4 (HR5.other (b2:=D+1) Ph 0 (Ti Tl k)) (ZF (Ti Tl k) a1) fun V HB6=>have HE6:Hid (aq w (T.setCell ⟨D+1,0,U8⟩ (Ti Tl k))):=Tn ((((Uh (S:=fun _=>False) HE4).onto HF5 (fun i hi e=>Za0)).onto (Uz (S:=fun b=>b=D+1) _ ⟨D+1,0,U8⟩ _ rfl) (fun i hi e=>Sx)).ext (fun _ _ h=>h));?_;clear c5 f5;refine Nu V (Ti Tl 0) (UH ⟨#[]⟩) (UH ⟨#[]⟩) (Ti Tt 0) (zz) (Ti Tl 0) (Ti Tl 0) (U1 false) (Ti Tl 0) (zz) (zz) (Ti Tt 0) (Ti Tt 0) rfl fun q0 q1 q2 q3 q4 q5 q6 q7 q8 q9 an a0 ac=>have c6:=HB6.out.cell;have hr:Hc R w (UO (UW #[UT #[Ti Tl 0,UH ⟨#[]⟩,UH ⟨#[]⟩,Ti Tt 0,zz,Ti Tl 0,Ti Tl 0,U1 false,Ti Tl 0,zz,zz,Ti Tt 0,Ti Tt 0],Ti Tl k])) (T.setCell ⟨D+1,0,U8⟩ (Ti Tl k)):=⟨_,_,rfl,HE6,by rw[O.out];exact⟨rfl,rfl⟩⟩;NoPanic.normal ?_;go_wp2_with fail;simp[bodyPostD,Leaves,Vo,results95,go_sem,q0,q1,q2,q3,q4,q5,q6,q7,q8,q9,an,a0,ac,c6,hr]
 |ok p=>
  obtain⟨y,rest⟩:=p;obtain⟨yt,yb,yl⟩:=y;rw[hg]at U O;dsimp only at O;have HSM:=Tn (vI 8 _ _ _ hg HLS);have hrl:=pz hg;clear hg;obtain⟨rfl,rfl,x,rfl,hIC⟩:=U;have HIC:=Tn hIC;have hI1:=HE1.out.size;refine P1 W1.heap.size fun I hI=>P1 (W1.alloc (Tq #[Ti Tl x.t,Tm x.ba x.bl x.bc,Tm x.la x.ll x.lc] 245)) fun V0 ab=>have M:Hid (VX V0 (D+1) 34 (Ti Tl 0)):=Tn (by rw[<-ab];exact HB1.out.alloc _);have c1:=M.out.cell;have f1:=M.out.frozen;have hVI:VX V0 I 245 (Ti Tl x.t)\/True:= .inr trivial;?_;clear hVI
  have HRI:Hid (aS V0 I 245 (fun i=>(#[Ti Tl x.t,Tm x.ba x.bl x.bc,Tm x.la x.ll x.lc]:Array UV).getD i VM) 3):=Tn (by
   rw[<-ab,<-hI];exact(UZ _ _).trans (congrArg (fun r=>Ts (Tq r 245 (0,0))) (mH #[Ti Tl x.t,Tm x.ba x.bl x.bc,Tm x.la x.ll x.lc] VM).symm))
  have HRD:Hid (aS V0 D 97 oL 13):=Tn (by rw[<-ab];exact HR1.out.ext (af P0 _));have HE2:Hid (aq w V0):=Tn (by rw[<-ab];exact af HE1 _);have HIC0:Hid (bK V0 (.mk yt yb yl) x):=Tn (by rw[<-ab];exact HIC.out.ext (af P0 _));have hDI:D+1<I:=by rw[<-hI];exact Boxed.lt HB1
  unfold bw;go_upto_region 2 with fail;clear ab hI c1 f1;refine P1 (V0.setCell ⟨D+1,0,U8⟩ (Ti Tl 0)) fun g z=>have HF1:Hid (Fr (fun b=>b=D+1) V0 g):=Tn (by rw[<-z];exact Uz (S:=fun b=>b=D+1) _ ⟨D+1,0,U8⟩ _ rfl);have J:Hid (VX g (D+1) 34 (Ti Tl 0)):=Tn (by rw[<-z];exact ZF _ M);have ao:Hid (aS g D 97 oL 13):=Tn (HRD.fr HF1 (fun e=>by have E:D=D+1:=e;omega));have HRJ:=Tn (HRI.fr HF1 (fun e=>by have E:I=D+1:=e;omega));have Id:Hid (aq w g):=Tn (((Uh (S:=fun _=>False) HE2).onto HF1 (fun i hi e=>Sx)).ext (fun _ _ h=>h));have HICV:Hid (bK g (.mk yt yb yl) x):=Tn (by rw[<-z,qo M.out];exact HIC0.out);?_;rw[z];clear z;have c1:=J.out.cell;have f1:=J.out.frozen;have j0:g.cell? ⟨I,0,U8⟩=Ts (Ti Tl x.t):=HRJ.out.cell (i:=0) Pi;have j1:g.cell? ⟨I,1,U8⟩=Ts (Tm x.ba x.bl x.bc):=HRJ.out.cell (i:=1) Pi;have j2:g.cell? ⟨I,2,U8⟩=Ts (Tm x.la x.ll x.lc):=HRJ.out.cell (i:=2) Pi;cases al:decide (rest=[])with
  |false=>
   have hrn:rest≠[]:=by simpa using al
   have HX:Hid (R= .error 71):=Tn (by rw[O.out,if_pos hrn]);have hn:((s.length:Int)-rest.length==N)=false:=by
    have:0<rest.length:=YL.2 hrn;have:=HN.out;simp;omega
   have HM:=Tn (dV g);go_wp2_with fail;refine HM.out.mono ?_;rintro e w'⟨rfl,rfl⟩;unfold dK;go_wp2_with fail;exact oX ao J Id ah HX
  |true=>
   obtain rfl:rest=[]:=by simpa using al
   have HX1:Hid (R=match (bO (.mk yt yb yl)).bind X with
    |none=> .error 71
    |some c=>if bG c=0 then .ok c else .error 71):=Tn (by rw[O.out,if_neg Pm])
   have hn:((s.length:Int)==N)=true:=by
    have:=HN.out;simp;omega
   refine P4 (fV g) (adZ yt yb yl x g (HKW.ext Id) HICV HSM) fun HM HCI=>?_;unfold bw at HCI;go_wp2_with fail;refine HM.out.mono ?_;rintro e w9⟨rfl,h9⟩;have ad:=h9.symm;subst ad;clear h9;go_wp2_with fail;refine HCI.out.mono ?_;clear HCI HM O;cases has:bO (.mk yt yb yl)with
   |none=>
    have HX:Hid (R= .error 71):=Tn (by rw[HX1.out,has];rfl);clear has;rintro e w1⟨rfl,P⟩;have HFC:=Tn P;clear P;unfold dK;go_wp2_with fail;exact oX (ao.fr HFC (fun e=>e)) (HFC.boxed J (fun e=>e)) (((Uh (S:=fun _=>False) Id).trans HFC).ext (fun _ _ h=>h)) ah HX
   |some l=>
    have HX2:Hid (R=match X l with
     |none=> .error 71
     |some c=>if bG c=0 then .ok c else .error 71):=Tn (by rw[HX1.out,has];rfl)
    clear has;rintro e w1⟨⟨rb,rfl,hrb,hrd⟩,P⟩;refine P5 P (HFN l rb w1 hrd) (ao.fr P (fun e=>e)) (P.boxed J (fun e=>e)) fun HFC HF HRC HBC=>have HEC:Hid (aq w w1):=Tn (((Uh (S:=fun _=>False) Id).trans P).ext (fun _ _ h=>h));have hDr:D+1<rb:=Wp (Boxed.lt J) hrb;?_;clear P hrd;go_wp2_with fail;refine HF.out.mono ?_;clear HF;cases m:X l with
    |none=>
     have HX:Hid (R= .error 71):=Tn (by rw[HX2.out,m]);clear m;rintro e w2⟨rfl,P⟩;have HFD:=Tn P;clear P;unfold dK;go_wp2_with fail;exact oX (HRC.fr HFD (fun e=>by have E:D=rb:=e;omega)) (HFD.boxed HBC (fun e=>by have E:D+1=rb:=e;omega)) (((Uh (S:=fun _=>False) HEC).onto HFD (fun i hi e=>by have E:i=rb:=e;omega)).ext (fun _ _ h=>h)) ah HX
    |some c=>
     have HX:Hid (R=if bG c=0 then .ok c else .error 71):=Tn (by rw[HX2.out,m]);clear m HX2;rintro e w2⟨⟨cx,rfl,hst,hcn⟩,P⟩;refine P5 hcn hst (HRC.fr P (fun e=>by have E:D=rb:=e;omega)) (P.boxed HBC (fun e=>by have E:D+1=rb:=e;omega)) fun HCN j HRD2 HBD=>have HED:Hid (aq w w2):=Tn (((Uh (S:=fun _=>False) HEC).onto P (fun i hi e=>by have E:i=rb:=e;omega)).ext (fun _ _ h=>h));have hDw:D+1<w1.heap.size:=Boxed.lt HBC;P1 (w2.setRow D #[Ti Tl c.serial,UH (aL c.issuer),UH (aL c.subject),ag c.key,Tm cx.na c.names.length cx.nc,Ti Tl c.from_,Ti Tl c.until_,U1 c.ca,Ti Tl c.depth,Tm cx.pa c.permit.length cx.pc,Tm cx.ra c.proms.length cx.rc,ag c.sig.e,ag c.sig.s]) fun T L=>have Z:Hid (Fr (fun b=>b=D) w2 T):=Tn (by rw[<-L];exact bH _ _ _);?_
     have HR5:Hid (aS T D 97 (pE c cx) 13):=Tn (by
      have h1:=iL HRD2 (A:=(wV c cx).toArray) rfl;rw[show(fun i=>(wV c cx).toArray.getD i VM)=pE c cx from Xc]at h1
      rw[<-L];exact h1)
     have a1:=Tn (Z.boxed HBD (fun e=>Zaj));have HE5:Hid (aq w T):=Tn (((Uh (S:=fun _=>False) HED).onto Z (fun i hi e=>Za0)).ext (fun _ _ h=>h))
     have HC5:Hid (lF T c cx):=Tn (j T (fun k o=>by
      obtain⟨h1,h2⟩:=o
      exact Z.out.block k h2 (fun e=>Za1)))
     have HCK:=Tn (vw c cx T HC5 HCN (HKW.ext HE5));clear P hst hcn;unfold fx at HCK⊢;refine Nu HR5 (Ti Tl c.serial) (UH (aL c.issuer)) (UH (aL c.subject)) (ag c.key) (Tm cx.na c.names.length cx.nc) (Ti Tl c.from_) (Ti Tl c.until_) (U1 c.ca) (Ti Tl c.depth) (Tm cx.pa c.permit.length cx.pc) (Tm cx.ra c.proms.length cx.rc) (ag c.sig.e) (ag c.sig.s) rfl fun q0 q1 q2 q3 q4 q5 q6 q7 q8 q9 an a0 ac=>?_;go_simp;go_step;refine WS rfl _ _ _ rfl D #[Ti Tl c.serial,UH (aL c.issuer),UH (aL c.subject),ag c.key,Tm cx.na c.names.length cx.nc,Ti Tl c.from_,Ti Tl c.until_,U1 c.ca,Ti Tl c.depth,Tm cx.pa c.permit.length cx.pc,Tm cx.ra c.proms.length cx.rc,ag c.sig.e,ag c.sig.s] rfl rfl 97 (fK oL 13) HRD2 Pg TC Q6 ?_;rw[L];clear L;go_wp2_with fail;refine HCK.out.mono ?_;rintro e V3⟨rfl,Y⟩;refine P5 (aa HE5 Y) (HR5.ext Y) (aC Y a1) Y fun HE6 V HB6 HX6=>?_;clear Y HCK q0 q1 q2 q3 q4 q5 q6 q7 q8 q9 an a0 ac;cases o:decide (bG c=0)with
     |false=>
      have Q:¬bG c=0:=Za3;have HX9:Hid (R= .error 71):=Tn (by rw[HX.out,if_neg Q]);have hkk:(bG c==0)=false:=by simpa using Q
      have HM:=Tn (dV V3);clear o Q;go_wp2_with fail;refine HM.out.mono ?_;rintro e w9⟨rfl,h9⟩;have ad:=h9.symm;subst ad;clear h9;unfold dK;go_wp2_with fail;exact oX V HB6 HE6 ah HX9
     |true=>
      have Q:bG c=0:=Za3;have HX9:Hid (R= .ok c):=Tn (by rw[HX.out,if_pos Q]);have HM:=Tn (fV V3);clear o;have hkk:(bG c==0)=true:=by rw[Q];rfl
      go_wp2_with fail;refine HM.out.mono ?_;rintro e w9⟨rfl,h9⟩;have ad:=h9.symm;subst ad;clear h9 hkk Q;refine Nu V (Ti Tl c.serial) (UH (aL c.issuer)) (UH (aL c.subject)) (ag c.key) (Tm cx.na c.names.length cx.nc) (Ti Tl c.from_) (Ti Tl c.until_) (U1 c.ca) (Ti Tl c.depth) (Tm cx.pa c.permit.length cx.pc) (Tm cx.ra c.proms.length cx.rc) (ag c.sig.e) (ag c.sig.s) rfl fun q0 q1 q2 q3 q4 q5 q6 q7 q8 q9 an a0 ac=>?_;go_upto_region 8 with fail;refine P1 (V3.setRow D #[Ti Tl c.serial,UH (aL c.issuer),UH (aL c.subject),ag c.key,Tm cx.na c.names.length cx.nc,Ti Tl c.from_,Ti Tl c.until_,U1 c.ca,Ti Tl c.depth,Tm cx.pa c.permit.length cx.pc,Tm cx.ra c.proms.length cx.rc,ag c.sig.e,ag c.sig.s]) fun V4 hV4=>have am:Hid (Fr (fun b=>b=D) V3 V4):=Tn (by rw[<-hV4];exact bH _ _ _);?_
      have HR7:Hid (aS V4 D 97 (pE c cx) 13):=Tn (by
       have h1:=iL V (A:=(wV c cx).toArray) rfl;rw[show(fun i=>(wV c cx).toArray.getD i VM)=pE c cx from Xc]at h1
       rw[<-hV4];exact h1)
      have HB7:=Tn (am.boxed HB6 (fun e=>Zaj));have HE7:Hid (aq w V4):=Tn (((Uh (S:=fun _=>False) HE6).onto am (fun i hi e=>Za0)).ext (fun _ _ h=>h));iterate 2 (go_step)
      go_simp;go_step;refine WS rfl _ _ _ rfl D #[Ti Tl c.serial,UH (aL c.issuer),UH (aL c.subject),ag c.key,Tm cx.na c.names.length cx.nc,Ti Tl c.from_,Ti Tl c.until_,U1 c.ca,Ti Tl c.depth,Tm cx.pa c.permit.length cx.pc,Tm cx.ra c.proms.length cx.rc,ag c.sig.e,ag c.sig.s] rfl rfl 97 (fK (pE c cx) 13) V Pg TC Q6 ?_;rw[hV4];clear hV4 q0 q1 q2 q3 q4 q5 q6 q7 q8 q9 an a0 ac;have c7:=HB7.out.cell;have f7:=HB7.out.frozen;go_wp2_with fail;have HF8:Fr (fun b=>b=D+1) V4 (V4.setCell ⟨D+1,0,U8⟩ (Ti Tl 0)):=Uz (S:=fun b=>b=D+1) _ ⟨D+1,0,U8⟩ _ rfl;refine NO (HR7.fr HF8 (fun e=>by have E:D=D+1:=e;omega)) (ZF _ HB7) (((Uh (S:=fun _=>False) HE7).onto HF8 (fun i hi e=>Sx)).ext (fun _ _ h=>h)) HX9 (j.move (fun k o=>?_) (fun k o=>?_)) HCN
      .obtain⟨h1,h2⟩:=o;have hsz2:=Z.out.size;have hsz3:=HX6.out.size;have hsz4:=am.out.size;exact((HF8.block k Ph (fun e=>by have E:k=D+1:=e;omega)).trans (am.block k Ph (fun e=>Za1))).trans ((HX6.block k Ph).trans (Z.block k h2 (fun e=>Za1)))
      obtain⟨h1,h2⟩:=o;have hsz2:=Z.out.size;have hsz3:=HX6.out.size;have hsz4:=am.out.size;have hsz8:=HF8.size;have hd:=ah.out;exact⟨Ph,Ph⟩
def tY(s:au)(v w)(H:aU w)(hv:aJ w v s)(p:s.length<=1000000):VB UB 34 #[v] w (Hc (cz s) w):=by
 refine P1 w.heap.size fun D C=>P1 (w.alloc (Tq #[Ti Tl 0,UH ⟨#[]⟩,UH ⟨#[]⟩,Ti Tt 0,zz,Ti Tl 0,Ti Tl 0,U1 false,Ti Tl 0,zz,zz,Ti Tt 0,Ti Tt 0] 97)) fun f d=>have B:=Tn (show aq w f from Pq);have O:Hid (aS f D 97 oL 13):=Tn (by rw[<-d,<-C];exact(UZ _ _).trans (congrArg (fun r=>Ts (Tq r 97 (0,0))) (mH #[Ti Tl 0,UH ⟨#[]⟩,UH ⟨#[]⟩,Ti Tt 0,zz,Ti Tl 0,Ti Tl 0,U1 false,Ti Tl 0,zz,zz,Ti Tt 0,Ti Tt 0] VM).symm));have M:=Tn (LT 96 eI s v f (H.ext B) (hv.ext B) p (fun _ _=>rfl) Kc);?_;rw[J0]at M;have U:Hid (f.heap.size=D+1):=Tn Qx;refine P1 (cz s) fun R hR=>?_;rw[hR]at M⊢;go_enter func34,ntmps34;go_upto_region 1 with fail;try rw[d]
 try rw[C]
 go_wp2_with fail;try rw[C]
 refine M.out.mono ?_;rintro e t⟨u,k,rfl,q,y⟩;refine P4 (aa B q) (O.ext q) fun K m=>?_;cases R with
 |error x=>
  obtain⟨rfl,rfl⟩:=y;refine P1 (t.setRow D #[Ti Tl 0,UH ⟨#[]⟩,UH ⟨#[]⟩,Ti Tt 0,zz,Ti Tl 0,Ti Tl 0,U1 false,Ti Tl 0,zz,zz,Ti Tt 0,Ti Tt 0]) fun j g=>have l:Hid (Fr (fun b=>b=D) t j):=Tn (by rw[<-g];exact bH _ _ _);have F:Hid (aS j D 97 (fun i=>(#[Ti Tl 0,UH ⟨#[]⟩,UH ⟨#[]⟩,Ti Tt 0,zz,Ti Tl 0,Ti Tl 0,U1 false,Ti Tl 0,zz,zz,Ti Tt 0,Ti Tt 0]:Array UV).getD i VM) 13):=Tn (by rw[<-g];exact iL m rfl);have G:=Tn (((Uh (S:=fun _=>False) K).onto l (fun i hi e=>Qh)).ext (fun _ _ h=>h));?_;go_simp;go_step;go_step;go_simp;go_step;go_step;go_simp;go_step;refine WS rfl _ _ _ rfl D #[Ti Tl 0,UH ⟨#[]⟩,UH ⟨#[]⟩,Ti Tt 0,zz,Ti Tl 0,Ti Tl 0,U1 false,Ti Tl 0,zz,zz,Ti Tt 0,Ti Tt 0] rfl rfl 97 (fK oL 13) m Pg TC Pu ?_;rw[g];refine Nu F (Ti Tl 0) (UH ⟨#[]⟩) (UH ⟨#[]⟩) (Ti Tt 0) (zz) (Ti Tl 0) (Ti Tl 0) (U1 false) (Ti Tl 0) (zz) (zz) (Ti Tt 0) (Ti Tt 0) rfl fun q0 q1 q2 Y P W Q X V N E I A=>?_;go_wp2;refine VC (v:=UW #[UT #[Ti Tl 0,UH ⟨#[]⟩,UH ⟨#[]⟩,Ti Tt 0,zz,Ti Tl 0,Ti Tl 0,U1 false,Ti Tl 0,zz,zz,Ti Tt 0,Ti Tt 0],Ti Tl k]) Qo rfl ⟨_,_,rfl,G,rfl,rfl⟩
 |ok c=>
  obtain⟨rfl,L,x,rfl,J⟩:=y;refine P4 L J fun Z T=>?_;unfold fx;refine P1 (t.setRow D #[Ti Tl c.serial,UH (aL c.issuer),UH (aL c.subject),ag c.key,Tm x.na c.names.length x.nc,Ti Tl c.from_,Ti Tl c.until_,U1 c.ca,Ti Tl c.depth,Tm x.pa c.permit.length x.pc,Tm x.ra c.proms.length x.rc,ag c.sig.e,ag c.sig.s]) fun j g=>have l:Hid (Fr (fun b=>b=D) t j):=Tn (by rw[<-g];exact bH _ _ _);have F:Hid (aS j D 97 (fun i=>(#[Ti Tl c.serial,UH (aL c.issuer),UH (aL c.subject),ag c.key,Tm x.na c.names.length x.nc,Ti Tl c.from_,Ti Tl c.until_,U1 c.ca,Ti Tl c.depth,Tm x.pa c.permit.length x.pc,Tm x.ra c.proms.length x.rc,ag c.sig.e,ag c.sig.s]:Array UV).getD i VM) 13):=Tn (by rw[<-g];exact iL m rfl);have G:=Tn (((Uh (S:=fun _=>False) K).onto l (fun i hi e=>Qh)).ext (fun _ _ h=>h));?_;go_simp;go_step;go_step;go_simp;go_step;go_step;go_simp;go_step;refine WS rfl _ _ _ rfl D #[Ti Tl c.serial,UH (aL c.issuer),UH (aL c.subject),ag c.key,Tm x.na c.names.length x.nc,Ti Tl c.from_,Ti Tl c.until_,U1 c.ca,Ti Tl c.depth,Tm x.pa c.permit.length x.pc,Tm x.ra c.proms.length x.rc,ag c.sig.e,ag c.sig.s] rfl rfl 97 (fK oL 13) m Pg TC Q6 ?_;rw[g];refine Nu F (Ti Tl c.serial) (UH (aL c.issuer)) (UH (aL c.subject)) (ag c.key) (Tm x.na c.names.length x.nc) (Ti Tl c.from_) (Ti Tl c.until_) (U1 c.ca) (Ti Tl c.depth) (Tm x.pa c.permit.length x.pc) (Tm x.ra c.proms.length x.rc) (ag c.sig.e) (ag c.sig.s) rfl fun q0 q1 q2 Y P W Q X V N E I A=>?_;go_wp2;refine VC (v:=UW #[UT #[Ti Tl c.serial,UH (aL c.issuer),UH (aL c.subject),ag c.key,Tm x.na c.names.length x.nc,Ti Tl c.from_,Ti Tl c.until_,U1 c.ca,Ti Tl c.depth,Tm x.pa c.permit.length x.pc,Tm x.ra c.proms.length x.rc,ag c.sig.e,ag c.sig.s],Ti Tl 0]) Qo rfl ⟨_,_,rfl,G,rfl,Z,x,rfl,?_⟩;have z:=l.out.size;have hE0:=B.out.size;have hlt:=U.out;exact T.out.move (fun k o=>l.out.block k o.2 (fun e=>by have am:=o.1;have e':k=D:=e;omega)) (fun k o=>⟨by have am:=o.1;omega,by have e2:=o.2;omega⟩)
def KU(c x w)(hC:lF w c x)(hN:kQ c)(H:aU w):VB UB 57 #[fx c x] w (bM (UW #[AJ (zg c),Ti Tl (cB c (fI c))]) w):=by
 have HB:=Tn (fun W(g:aq w W)=>DD c x W (hC.ext g) hN (H.ext g));have R:cB c (fI c)=0->(cy (fI c)).length<=100000:=fun h=>by
  refine(iK (fw (c:=c) ?_).1).2.2;unfold cB at h;split at h
  .next h1=>exact absurd h h1
  next h1=>exact Xn.1 h1
 have P:=Tn R;refine P1 w.heap.size fun b hb=>P1 (b+1) fun D C=>P1 ((w.alloc (Tq #[Ti Tl c.serial,UH (aL c.issuer),UH (aL c.subject),ag c.key,Tm x.na c.names.length x.nc,Ti Tl c.from_,Ti Tl c.until_,U1 c.ca,Ti Tl c.depth,Tm x.pa c.permit.length x.pc,Tm x.ra c.proms.length x.rc,ag c.sig.e,ag c.sig.s] 97)).alloc (Tq #[Ti Tt 0,Ti Tt 0] 56)) fun f d=>have B:=Tn (show aq w f from Pz);have K:Hid (f.heap[D]?=Ts (Tq #[Ti Tt 0,Ti Tt 0] 56 (0,0))):=Tn (by rw[<-d,<-C,<-hb];have:=UZ (w.alloc (Tq #[Ti Tl c.serial,UH (aL c.issuer),UH (aL c.subject),ag c.key,Tm x.na c.names.length x.nc,Ti Tl c.from_,Ti Tl c.until_,U1 c.ca,Ti Tl c.depth,Tm x.pa c.permit.length x.pc,Tm x.ra c.proms.length x.rc,ag c.sig.e,ag c.sig.s] 97)) (Tq #[Ti Tt 0,Ti Tt 0] 56);rwa[Ud]at this);have T:w.heap.size<=D:=Ph;have z0:f.cell? ⟨b,0,U8⟩=Ts (Ti Tl c.serial):=Po;have z1:f.cell? ⟨b,1,U8⟩=Ts (UH (aL c.issuer)):=Po;have z2:f.cell? ⟨b,2,U8⟩=Ts (UH (aL c.subject)):=Po;have z3:f.cell? ⟨b,3,U8⟩=Ts (ag c.key):=Po;have z4:f.cell? ⟨b,4,U8⟩=Ts (Tm x.na c.names.length x.nc):=Po;have z5:f.cell? ⟨b,5,U8⟩=Ts (Ti Tl c.from_):=Po;have z6:f.cell? ⟨b,6,U8⟩=Ts (Ti Tl c.until_):=Po;have z7:f.cell? ⟨b,7,U8⟩=Ts (U1 c.ca):=Po;have z8:f.cell? ⟨b,8,U8⟩=Ts (Ti Tl c.depth):=Po;have z9:f.cell? ⟨b,9,U8⟩=Ts (Tm x.pa c.permit.length x.pc):=Po;have z10:f.cell? ⟨b,10,U8⟩=Ts (Tm x.ra c.proms.length x.rc):=Po;have z11:f.cell? ⟨b,11,U8⟩=Ts (ag c.sig.e):=Po;have z12:f.cell? ⟨b,12,U8⟩=Ts (ag c.sig.s):=Po;have r:Hid (zg c=if cB c (fI c)=0 then uS (cy (fI c))else(0,0)):=Tn rfl;P1 (zg c) fun U S=>?_;rw[S]at r⊢;unfold fx at HB⊢;clear R S;go_enter func57,ntmps57;go_upto_region 1 with fail;try rw[d]
 try rw[hb]
 try rw[C]
 clear d;go_wp2_with fail;try rw[C]
 refine(HB f B).mono ?_;rintro e t⟨v,rfl,X,L,q⟩;refine P5 (aa B q) X L ((q.block D (UE.1 K).1).trans K) fun O Q M A=>?_;clear z0 z1 z2 z3 z4 z5 z6 z7 z8 z9 z10 z11 z12;refine P1 (fI c) fun Y N=>?_;rw[N]at Q M r P⊢;by_cases o:cB c Y=0
 .have ho:=Q.out o;have HLK:=Tn (P o);have p:Hid (U=uS (cy Y)):=Tn (by rw[r.out,if_pos o]);have G:aJ t v (cy Y):=aJ.own rfl ho;obtain⟨a,cc,hv⟩:=G.form;subst hv;have HBV:=Tn G;have y:Hid (cB c (fI c)=0):=Tn (by rw[N];exact o);rw[o];clear N;go_wp2_with fail;refine P2 (Cj (cy Y) _ t HBV (VG HLK Pi)) fun I J=>have F:=Tn (aa O J);have l:=(J.block D (UE.1 A).1).trans A;?_;obtain⟨⟨s1,Z⟩,z⟩:∃s,eH (cy Y)=s:=⟨_,rfl⟩;have HS:=Tn (p.trans z);rw[z];unfold AJ;dsimp only;have m:=bz l T F (ag s1) (ag Z);refine PI I D (ag s1) (ag Z) fun V u=>?_;rw[u]at m;refine P4 m u fun j HV=>PM l fun e0 am=>PO l fun g0 g1=>?_;clear u;go_wp2_with fail;rw[HV.out];exact PM j.1 fun q0 q1=>VC (v:=UW #[UT #[ag s1,ag Z],Ti Tl 0]) Sy rfl ⟨by rw[HS.out,y.out];rfl,j.2⟩
 have p:Hid (U=(0,0)):=Tn (by rw[r.out,if_neg o]);obtain rfl:=M.out o;have ab:(cB c Y !=0)=true:=Zbt;refine P1 (cB c Y) fun E g=>have y:Hid (cB c (fI c)=E):=Tn (by rw[N];exact g);?_;rw[g]at ab⊢;have l:=A.out;have m:=bz l T O (Ti Tt 0) (Ti Tt 0);refine PI t D (Ti Tt 0) (Ti Tt 0) fun V u=>?_;rw[u]at m;refine P4 m u fun j HV=>PM l fun e0 am=>PO l fun g0 g1=>?_;clear u g N;go_wp2_with fail;rw[HV.out];exact PM j.1 fun q0 q1=>VC (v:=UW #[UT #[Ti Tt 0,Ti Tt 0],Ti Tl E]) Sy rfl ⟨by rw[p.out,y.out];rfl,j.2⟩
end Go.Proofs.YtjmgalpkbkcmkaaGreatDoor

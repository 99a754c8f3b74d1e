import Derived.Test.YtjmgalpkbkcmkaaGreatDoorQ05
set_option maxRecDepth 100000
set_option maxHeartbeats 16000000
set_option linter.all false
namespace Go.Proofs.YtjmgalpkbkcmkaaGreatDoor
open Go.RowKit Go.Proofs.Tryz Go.Proofs.YtjmgalpkbkcmkaaGreatDoor.Tryz
open _root_.Array renaming getElem?_eq_none->WB,getElem?_eq_some_iff->UE,ext_getElem?->Yc
open Bool renaming or_eq_true->WU,and_eq_true->V7,eq_iff_iff->YH,true_and->Wo,not_eq_true'->Wh
open Classical renaming not_not->Xn
open Go renaming World->UN,frozen_of_row->VQ,Calls->VB,callFunc->Wu,info_parts->WN,maxLen->VL,cell_of_row->Uc,Value->UV,Boxed->VX,Ending->Xo,Addr->VW,results->Vo,bytesRow->ZJ,bodyPost_ret->VC,heap_setCell_same->VE
open Go.Addr renaming add->ZL
open Go.Ending renaming returned->UO
open Go.IntKind renaming u8->Uy,i64->Tl
open Go.Lib renaming hid->Tn,byteCells->VH
open Go.Obj renaming cells->Tq
open Go.Proofs renaming intOf->VS,enters_of->Vv
open Go.Proofs.Tryz renaming prog->UB
open Go.Proofs.YtjmgalpkbkcmkaaGreatDoor.Fr renaming setCell->Uz,of_ext->Uh
open Go.Proofs.YtjmgalpkbkcmkaaGreatDoor.aq renaming grown->ZB
open Go.Region renaming ready->Ya
open Go.Value renaming string->UH,slice->Tm,tuple->UW,bool->U1,pointer->UK,agg->UT,int->Ti
open Go.World renaming size_alloc->Ud,cell?->Wc,setCell->XY,cell?_setCell_far->XX,alloc_heap_new->UZ,ownsRow_nil->WO,cell?_of_block->Wj
open List renaming getElem?_cons_succ->YO,length_nil->VJ,map_append->WK,length_drop->VT,length_append->Uo,length_singleton->WJ,mem_singleton->VP,mem_of_getElem?->Uv,nil_append->Vd,length_cons->Up,mem_map->Wl,take_zero->Wk,getElem?_eq_some_iff->UU,getElem?_eq_getElem->V8,length_map->VR,cons_append->Vu,map_nil->Ym,mem_cons_of_mem->WW,take_of_length_le->VD,mem_cons->VN,getElem?_map->VU,append_nil->Ww,foldl_cons->Yr,getElem?_drop->YE,length->Xt,eq_nil_of_length_eq_zero->VA,map_cons->WI,append_assoc->Ws
open Nat renaming lt_trans->WF,zero_add->VY,le_refl->UY,add_zero->YF,zero_mul->Yx,lt_of_lt_of_le->Wp,zero_le->VF,le_trans->VG
open Option renaming some->Ts,bind->Xu,none->U8,map->Xb
open Option.some renaming inj->Vm
open Prod.mk renaming injEq->Yy
open UInt8 renaming lt_iff_toNat_lt->YX,ofNat->VI
variable {S:Nat->Prop} {T t:TypeId} {a:Option Addr} {b c d w:World} {f:Nat->Value} {g j k n:Nat} {u v x z:Value}
section
inductive aQ where
 |mk (tag:Int) (b:au) (l:List aQ)
def gj:au->Bool
 |[]=>false
 |[_]=>true
 |x::y::t=>decide (t.length<=6)&& !(x==0-y/128)
def cC(t:Int):Bool:=t==1||(t==2||(t==4||(t==12||t==48)))
def I0(b:au):Bool:=b.all fun c=>decide (32<=c)&&decide (c<=126)
def jp(t:Int)(b:au):Bool:=
 if t=1 then b==[0]||b==[255]else if t=2 then gj b else if t=4 then true else if t=12 then I0 b else b.isEmpty
mutual
def br:Nat->aQ->Bool
 |0,_=>false
 |d+1,.mk t b l=>cC t&&(jp t b&&((t==48||l.isEmpty)&&nJ d l))
def nJ:Nat->List aQ->Bool
 |_,[]=>true
 |d,x::l=>br d x&&nJ d l
end
def nE(n:Nat):au:=if n<128 then[VI n]else if n<256 then[129,VI n]else[130,VI (n/256),VI n]
mutual
def cy:aQ->au
 | .mk t b l=>VI t.toNat::(nE (b++dW l).length++(b++dW l))
def dW:List aQ->au
 |[]=>[]
 |x::l=>cy x++dW l
end
def pG(x:aQ):Int:=if br 8 x=false then 1 else if 8192<(cy x).length then 2 else 0
def gU:au->Except Int (Nat×Nat)
 |[]=> .error 70
 |f::t=>
  if f<128 then .ok (f.toNat,1)
  else if f≠129/\f≠130 then .error 71
  else if t.length<f.toNat-128 then .error 70
  else
   let n:=(t.take (f.toNat-128)).foldl (fun n x=>n*256+x.toNat) 0
   if n<128\/(f=130/\n<256)then .error 71 else .ok (n,f.toNat-127)
def nI(g:au->Except Int (aQ×au)):Nat->au->Except Int (List aQ)
 |0,s=>if s=[]then .ok []else .error 71
 |f+1,s=>if s=[]then .ok []else
  match g s with
  | .error _=> .error 71
  | .ok (y,r)=>match nI g f r with
   | .error e=> .error e
   | .ok l=> .ok (y::l)
def dh:Nat->au->Except Int (aQ×au)
 |_,[]=> .error 70
 |0,_::_=> .error 71
 |d+1,c::t=>
  if cC c.toNat=false then .error 71 else
  match gU t with
  | .error e=> .error e
  | .ok (n,b)=>
   if 8192<1+b+n then .error 71 else
   if(t.drop b).length<n then .error 70 else
   let f:=(t.drop b).take n
   let rest:=(t.drop b).drop n
   if c≠48 then(if jp c.toNat f then .ok (.mk c.toNat f [],rest)else .error 71)
   else match nI (dh d) f.length f with
    | .error _=> .error 71
    | .ok l=> .ok (.mk 48 [] l,rest)
end
def tO{t}(h:cC t=true):t=1\/t=2\/t=4\/t=12\/t=48:=by
 unfold cC at h;simpa using h
def LK(n)(hn:n<65536)(rest:au):gU (nE n++rest)= .ok (n,(nE n).length):=by
 unfold nE;by_cases h1:n<128
 .rw[if_pos h1];have c:(VI n).toNat=n:=Pp;show gU (VI n::rest)=_
  rw[gU,if_pos (by rw[YX,c];exact h1),c];rfl
 rw[if_neg h1];by_cases A:n<256
 .rw[if_pos A];have c:(VI n).toNat=n:=Pp;have e:(((VI n::rest).take ((129:UInt8).toNat-128)).foldl (fun n(x:UInt8)=>n*256+x.toNat) 0)=n:=by
   show 0*256+(VI n).toNat=n
   rw[c];omega
  show gU (129::VI n::rest)=_
  rw[gU,if_neg Pi,if_neg Pi,if_neg (by show¬(VI n::rest).length<1;simp)];simp only[e];rw[if_neg (by rintro(h|⟨h,_⟩);exact h1 h;cases h)];exact congrArg (fun k=>Except.ok (n,k)) (show(129:UInt8).toNat-127=2 from Pi)
 rw[if_neg A];have c:(VI n).toNat=n%256:=Pm;have b:(VI (n/256)).toNat=n/256:=Pp;have e:(((VI (n/256)::VI n::rest).take ((130:UInt8).toNat-128)).foldl (fun n(x:UInt8)=>n*256+x.toNat) 0)=n:=by
  show(0*256+(VI (n/256)).toNat)*256+(VI n).toNat=n
  rw[c,b];omega
 show gU (130::VI (n/256)::VI n::rest)=_
 rw[gU,if_neg Pi,if_neg Pi,if_neg (by show¬(VI (n/256)::VI n::rest).length<2;simp)];simp only[e];rw[if_neg (by rintro(h|⟨_,h⟩)<;>omega)];exact congrArg (fun k=>Except.ok (n,k)) (show(130:UInt8).toNat-127=3 from Pi)
def ug(n):1<=(nE n).length/\(nE n).length<=3:=by
 unfold nE;split
 .simp
 split<;>simp
def Iv(t)(b:au)(l:List aQ):cy (.mk t b l)=VI t.toNat::(nE (b++dW l).length++(b++dW l)):=by rw[cy]
def li(t)(b:au)(l:List aQ):(cy (.mk t b l)).length=1+(nE (b++dW l).length).length+(b++dW l).length:=by
 rw[Iv,Up,Uo];omega
def DO(x:aQ):2<=(cy x).length:=by
 cases x with
 |mk t b l=>rw[li];have:=(ug (b++dW l).length).1;omega
def mE(x:aQ)(l:List aQ):dW (x::l)=cy x++dW l:=by rw[dW]
def lZ:dW []=[]:=by rw[dW]
def oH:∀l:List aQ,l.length<=(dW l).length
 |[]=>Pm
 |x::l=>by rw[mE,Uo,Up];have:=DO x;have:=oH l;omega
def r7{d}{x:aQ}{l:List aQ}:nJ d (x::l)=(br d x&&nJ d l):=by rw[nJ]
def py{d t}{b:au}{l:List aQ}:br (d+1) (.mk t b l)=(cC t&&(jp t b&&((t==48||l.isEmpty)&&nJ d l))):=by rw[br]
def zF(x:aQ):br 0 x=false:=by cases x;rw[br]
def Cq{g:au->Except Int (aQ×au)}:∀(l:List aQ)(f:Nat),(∀x∈l,∀rest,g (cy x++rest)= .ok (x,rest))->l.length<=f->nI g f (dW l)= .ok l
 |[],f,_,_=>by
  rw[lZ];cases f<;>rfl
 |x::l,0,_,h=>QX
 |x::l,f+1,S,h=>by
  rw[mE,nI,if_neg (by intro e;have:=DO x;have b:=congrArg Xt e;rw[Uo,VJ]at b;omega),S x (List.mem_cons_self ..)];dsimp only;rw[Cq l f (fun y U=>S y (WW _ U)) (Nat.le_of_succ_le_succ h)]
def IR:∀(d:Nat)(x:aQ)(rest:au),br d x=true->(cy x).length<=8192->dh d (cy x++rest)= .ok (x,rest)
 |0,x,_,h,_=>by rw[zF]at h;cases h
 |d+1,.mk t b l,rest,h,p=>by
  rw[py]at h;simp only[V7]at h;obtain⟨o,f,A,K⟩:=h;rw[li]at p;refine P1 ((b++dW l).length) fun n hn=>?_;have c:=LK n Ph ((b++dW l)++rest);rw[Iv,hn];rw[hn]at p;have D:((VI t.toNat).toNat:Int)=t:=by rcases tO o with rfl|rfl|rfl|rfl|rfl<;>rfl
  have j:(VI t.toNat≠48)↔t≠48:=by rcases tO o with rfl|rfl|rfl|rfl|rfl<;>decide
  rw[Vu,Ws,dh,D,o,if_neg Pi,c];dsimp only;have am:(nE n++(b++dW l++rest)).drop (nE n).length=b++dW l++rest:=List.drop_left;rw[if_neg Ph,am,if_neg (by rw[Uo,hn];omega)];have C:(b++dW l++rest).take n=b++dW l:=by rw[<-hn];exact List.take_left
  have B:(b++dW l++rest).drop n=rest:=by rw[<-hn];exact List.drop_left
  rw[C,B];by_cases g:t=48
  .rw[if_neg (fun h=>j.1 h g)];subst g;have hb:b=[]:=by
    unfold jp at f;rw[if_neg Pi,if_neg Pi,if_neg Pi,if_neg Pi]at f;simpa using f
   subst hb;rw[Vd]at hn⊢;have m:∀y∈l,br d y=true:=by
    intro y U;clear hn p c am C B A;induction l with
    |nil=>cases U
    |cons z l u=>
     rw[r7,V7]at K;rcases VN.1 U with rfl|U
     .exact K.1
     exact u K.2 U
   have s:∀y∈l,(cy y).length<=(dW l).length:=by
    intro y U;clear hn p c am C B K m A;induction l with
    |nil=>cases U
    |cons z l u=>
     rw[mE,Uo];rcases VN.1 U with rfl|U
     .omega
     have:=u U;omega
   rw[Cq l _ (fun y U r=>IR d y r (m y U) (by have:=s y U;omega)) (oH l)]
  rw[if_pos (j.2 g)];have q:l=[]:=by
   rcases WU _ _▸A with h|h
   .exact absurd QJ g
   simpa using h
  subst q;rw[lZ,Ww,f,if_pos rfl]
structure gW where
 log:Int
 at_:Int
 leaf:nD
 sig:Sg
deriving DecidableEq
structure ff where
 serial:Int
 issuer:au
 subject:au
 key:Nat
 names:List au
 from_:Int
 until_:Int
 ca:Bool
 depth:Int
 permit:List au
 proms:List gW
 sig:Sg
deriving DecidableEq
def dZ(n:Int):Bool:=decide (0<=n)&&decide (n<=1099511627776)
def oz(s:au):Bool:= !s.isEmpty&&(decide (s.length<=64)&&s.all fun c=>decide (33<=c)&&decide (c<=126))
def ik(g:Sg):Bool:=decide (max g.e g.s<Rp)
def cR(p:gW):Bool:=dZ p.log&&(dZ p.at_&&(decide (max p.leaf.1 p.leaf.2<iE)&&ik p.sig))
def fU(right:au->Bool):List au->List au->Bool
 |_,[]=>true
 |met,s::l=> !met.contains s&&(right s&&fU right (met++[s]) l)
def oQ(right:au->Bool)(l:List au)(b most:Nat):Bool:=fU right [] l&&(decide (b<=l.length)&&decide (l.length<=most))
def gY:Int->List gW->Bool
 |_,[]=>true
 |last,p::l=>cR p&&(decide (last<p.log)&&gY p.log l)
def dr(c:ff):Bool:=
 gY (-1) c.proms&&(
 if !dZ c.serial||(!dZ c.from_||(!dZ c.until_||decide (c.until_<=c.from_)))then false else
 if !oz c.issuer||(c.key==0||(decide (Qp<=c.key)||(decide (4<c.proms.length)|| !ik c.sig)))then false else
 if c.ca then oz c.subject&&(c.names.isEmpty&&(decide (0<=c.depth)&&(decide (c.depth<=4)&&oQ (fun s=>(dy s).2.2) c.permit 0 8)))else
 c.subject.isEmpty&&(oQ gX c.names 1 8&&(c.depth==0&&c.permit.isEmpty)))
def dY:au->au
 |[]=>[]
 |[x]=>[x]
 |x::y::t=>if gj (x::y::t)then x::y::t else dY (y::t)
def cS(n:Nat):aQ:= .mk 2 (dY (be 8 n)) []
def eC(n:Int):aQ:=cS (n%2^64).toNat
def cg(s:au):aQ:= .mk 12 s []
def kY(v:Bool):aQ:= .mk 1 [if v then 255 else 0] []
def dO(l:List aQ):aQ:= .mk 48 [] l
def fI(c:ff):aQ:=dO [eC c.serial,cg c.issuer,cg c.subject,cS c.key,dO (c.names.map cg),eC c.from_,eC c.until_,kY c.ca,eC c.depth,dO (c.permit.map cg)]
def fZ(p:gW):aQ:=dO [eC p.log,eC p.at_,cS p.leaf.1,cS p.leaf.2,cS p.sig.e,cS p.sig.s]
def du(c:ff):aQ:=dO [fI c,dO (c.proms.map fZ)]
def jv(c:ff):aQ:=dO [du c,dO [cS c.sig.e,cS c.sig.s]]
def bG(c:ff):Int:=if dr c=false then 1 else if pG (jv c)≠0\/2048<(cy (jv c)).length then 2 else 0
def cB(c:ff)(x:aQ):Int:=if bG c≠0 then bG c else pG x
def jy(c:ff)(x:aQ):au:=if cB c x=0 then cy x else[]
def IY:au:=[108,101,97,102]
def uS(b:au):nD:=cj IY [b]
def zg(c:ff):nD:=if cB c (fI c)=0 then uS (cy (fI c))else(0,0)
def eP(b:au):Int:=match b with
 |[]=>0
 |x::t=>t.foldl (fun n(y:UInt8)=>n*256+(y.toNat:Int)) (if x<128 then(x.toNat:Int)else(x.toNat:Int)-256)
def iD:aQ->Option Int
 | .mk t b l=>if t=2/\br 8 (.mk t b l)=true then Ts (eP b)else U8
def cZ:aQ->Option au
 | .mk t b l=>if t=12/\br 8 (.mk t b l)=true then Ts b else U8
def ij:aQ->Option Bool
 | .mk t b l=>if t=1/\br 8 (.mk t b l)=true then Ts (b !=[0])else U8
def bO:aQ->Option (List aQ)
 | .mk t b l=>if t=48/\br 8 (.mk t b l)=true then Ts l else U8
def bX{α:Type}(b:aQ->Option α):List aQ->Option (α×List aQ)
 |[]=>U8
 |x::l=>(b x).map fun v=>(v,l)
def cA(l:List aQ):Option (Int×List aQ):=match bX iD l with
 |some (n,r)=>if n<0 then U8 else Ts (n,r)
 |none=>U8
def kT(l:List aQ):Option (Nat×List aQ):=(cA l).map fun p=>(p.1.toNat,p.2)
def cV:List aQ->Option (List au)
 |[]=>Ts []
 |x::l=>(cZ x).bind fun s=>(cV l).map (s::·)
def iq(l:List aQ):Option (List au×List aQ):=(bX bO l).bind fun p=>(cV p.1).map (·,p.2)
def fl(l:List aQ):Option ff:=
 (cA l).bind fun(serial,l)=>(bX cZ l).bind fun(issuer,l)=>(bX cZ l).bind fun(subject,l)=>(kT l).bind fun(key,l)=>
 (iq l).bind fun(names,l)=>(cA l).bind fun(from_,l)=>(cA l).bind fun(until_,l)=>(bX ij l).bind fun(ca,l)=>(cA l).bind fun(depth,l)=>
 (iq l).bind fun(permit,l)=>if l.isEmpty then Ts ⟨serial,issuer,subject,key,names,from_,until_,ca,depth,permit,[],⟨0,0⟩⟩else U8
def jl(l:List aQ):Option gW:=
 (cA l).bind fun(log,l)=>(cA l).bind fun(at_,l)=>(kT l).bind fun(a,l)=>(kT l).bind fun(b,l)=>(kT l).bind fun(e,l)=>(kT l).bind fun(s,l)=>
 if l.isEmpty then Ts ⟨log,at_,(a,b),⟨e,s⟩⟩else U8
def dF:List aQ->Option (List gW)
 |[]=>Ts []
 |x::l=>(bO x).bind fun y=>(jl y).bind fun p=>(dF l).map (p::·)
def eI(l:List aQ):Option ff:=
 (bX bO l).bind fun(x,l)=>(fl x).bind fun c=>(bX bO l).bind fun(y,l)=>(dF y).bind fun ps=>if l.isEmpty then Ts {c with proms:=ps}else U8
def cz(b:au):Except Int ff:=match dh 8 b with
 | .error e=> .error e
 | .ok (x,rest)=>if rest≠[]then .error 71 else
  match (bO x).bind eI with
  |none=> .error 71
  |some c=>if bG c=0 then .ok c else .error 71
def bB(s:au):Nat:=s.foldl (fun n x=>n*256+x.toNat) 0
def cF(b:au):au:=be 4 b.length++(b++eq (bF b))
def bm:Nat->au->Nat->List (au×Nat)
 |0,_,_=>[]
 |f+1,s,at_=>
  if s.length<20 then[]else
  if 4096<bB (s.take 4)then[]else
  if s.length<20+bB (s.take 4)then[]else
  if(s.drop (4+bB (s.take 4))).take 16≠eq (bF ((s.drop 4).take (bB (s.take 4))))then[]else
  ((s.drop 4).take (bB (s.take 4)),at_+(20+bB (s.take 4)))::bm f (s.drop (20+bB (s.take 4))) (at_+(20+bB (s.take 4)))
def aO(s:au):List (au×Nat):=bm s.length s 0
def eE(l:List (au×Nat)):Nat:=match l.getLast? with
 |none=>0
 |some x=>x.2
def il:∀(f g:Nat)(s:au)(i:Nat),s.length<=f->s.length<=g->bm f s i=bm g s i
 |0,g,s,i,h,_=>by
  cases g with
  |zero=>rfl
  |succ g=>unfold bm;rw[if_pos Ph]
 |f+1,0,s,i,_,h=>by unfold bm;rw[if_pos Ph]
 |f+1,g+1,s,i,h,b=>by
  unfold bm;by_cases h1:s.length<20
  .rw[if_pos h1,if_pos h1]
  rw[if_neg h1,if_neg h1];rw[il f g _ _ Py Py]
def FL(s:au)(c:UInt8):bB (s++[c])=bB s*256+c.toNat:=by unfold bB;rw[List.foldl_append];rfl
def vo(s:au):∀n:Nat,s.foldl (fun n x=>n*256+x.toNat) n=n*256^s.length+bB s:=by
 induction s with
 |nil=>intro n;simp[bB]
 |cons c s b=>
  intro n;unfold bB;rw[Yr,Yr,b,b,Up,Nat.pow_succ,Yx,VY,Nat.add_mul];have:n*256*256^s.length=n*(256^s.length*256):=by rw[Nat.mul_assoc,Nat.mul_comm 256]
  omega
def qm(c:UInt8)(s:au):bB (c::s)=c.toNat*256^s.length+bB s:=by
 have:=vo s c.toNat;unfold bB at this⊢;rw[Yr,Yx,VY,this]
def kJ:∀(k n:Nat),bB (be k n)=n%256^k
 |0,n=>by rw[be];simp[bB,Nat.mod_one]
 |k+1,n=>by
  rw[be,qm,aI,kJ k n];have h1:(VI (n/256^k)).toNat=n/256^k%256:=Pm;rw[h1,Nat.pow_succ,Nat.mod_mul,Nat.mul_comm (256^k) (n/256^k%256)];omega
def It:∀(d:Nat)(x:aQ),br d x=true->br (d+1) x=true
 |0,x,h=>by rw[zF]at h;cases h
 |d+1,.mk t b l,h=>by
  rw[py]at h⊢;simp only[V7]at h⊢;refine⟨h.1,h.2.1,h.2.2.1,?_⟩;have K:=h.2.2.2;clear h;induction l with
  |nil=>rw[nJ]
  |cons x l c=>
   rw[r7,V7]at K⊢;exact⟨It d x K.1,c K.2⟩
def pi{d}{x:aQ}(h:br d x=true):∀{k:Nat},d<=k->br k x=true:=fun{k}o=>by
 induction k with
 |zero=>
      obtain rfl:d=0:=Ph;exact h
 |succ k b=>
  by_cases e:d=k+1
  .subst e;exact h
  exact It k x (b Ph)
def lQ{d}{l:List aQ}(h:br (d+1) (dO l)=true):∀x∈l,br d x=true:=by
 unfold dO at h;rw[py]at h;simp only[V7]at h;have K:=h.2.2.2;clear h;intro x m;induction l with
 |nil=>cases m
 |cons y l b=>
  rw[r7,V7]at K;rcases VN.1 m with rfl|m
  .exact K.1
  exact b K.2 m
def tP:∀b:au,b≠[]->b.length<=8->gj (dY b)=true
 |[],h,_=>absurd rfl h
 |[x],_,_=>rfl
 |x::y::t,_,p=>by
  rw[dY];split
  .next h=>exact h
  exact tP (y::t) Pm (by simp at p⊢;omega)
def ue:∀b:au,b.length<=8->eP (dY b)=eP b
 |[],_=>rfl
 |[x],_=>rfl
 |x::y::t,p=>by
  rw[dY];split
  .rfl
  next h=>
  rw[ue (y::t) (by simp at p⊢;omega)];have m:x=0-y/128:=by
   simp at p;have e:gj (x::y::t)=(decide (t.length<=6)&& !(x==0-y/128)):=rfl;rw[e,decide_eq_true p,Wo]at h;simpa using h
  unfold eP;dsimp only;rw[Yr];congr 1;by_cases U:y<128
  .have L:y/128=0:=by
    apply UInt8.toNat_inj.1;rw[UInt8.toNat_div];rw[YX]at U;exact Nat.div_eq_of_lt U
   rw[m,L,if_pos U];show _=(0:Int)*256+_
   omega
  have h1:y/128=1:=by
   apply UInt8.toNat_inj.1;rw[UInt8.toNat_div];rw[YX]at U;have:=y.toNat_lt;show y.toNat/128=1
   have c:¬y.toNat<128:=U;omega
  rw[m,h1,if_neg U];show _=((255:Nat)-256:Int)*256+_
  omega
def Nw(t:au):∀n:Nat,t.foldl (fun n(y:UInt8)=>n*256+(y.toNat:Int)) (n:Int)=((t.foldl (fun n(x:UInt8)=>n*256+x.toNat) n:Nat):Int):=by
 induction t with
 |nil=>intro n;rfl
 |cons c t b=>
  intro n;rw[Yr,Yr,<-b];congr 1
def LJ(n:Nat)(hn:n<9223372036854775808):eP (be 8 n)=n:=by
 have h1:be 8 n=VI (n/256^7)::be 7 n:=rfl;have c:(VI (n/256^7)).toNat=n/256^7:=Pp;have A:=kJ 8 n;rw[h1,qm,c,aI]at A;rw[h1];unfold eP;dsimp only;rw[if_pos (by rw[YX,c];show n/256^7<128;omega),c,Nw,vo,aI,A];omega
def yW(hn:n<9223372036854775808):iD (cS n)=Ts (n:Int):=by
 unfold cS iD;have hb:be 8 n≠[]:=by intro e;have:=congrArg Xt e;rw[aI]at this;cases this
 have K:br 8 (.mk 2 (dY (be 8 n)) [])=true:=by
  rw[py];have:jp 2 (dY (be 8 n))=true:=by
   unfold jp;rw[if_neg Pi,if_pos rfl];exact tP _ hb RQ
  rw[this,nJ];rfl
 dsimp only;rw[if_pos ⟨rfl,K⟩,ue _ RQ,LJ n hn]
def iQ{n}(L:0<=n)(h1:n<=1099511627776)(l:List aQ):cA (eC n::l)=Ts (n,l):=by
 obtain⟨k,rfl⟩:=Int.eq_ofNat_of_zero_le L;unfold cA bX eC;have:((k:Int)%2^64).toNat=k:=Ph;dsimp only;rw[this,yW Ph];dsimp only[Xb];rw[if_neg Ph]
def n8(hn:n<9223372036854775808)(l:List aQ):kT (cS n::l)=Ts (n,l):=by
 unfold kT cA bX;dsimp only;rw[yW hn];dsimp only[Xb];rw[if_neg Ph];rfl
def og{d}{s:au}(h:br d (cg s)=true)(y:d<=8):cZ (cg s)=Ts s:=by
 have:=pi h y;unfold cg at this⊢;unfold cZ;dsimp only;rw[if_pos ⟨rfl,this⟩]
def mi{d}{l:List aQ}(h:br d (dO l)=true)(y:d<=8):bO (dO l)=Ts l:=by
 have:=pi h y;unfold dO at this⊢;unfold bO;dsimp only;rw[if_pos ⟨rfl,this⟩]
def Cm{d v}(h:br d (kY v)=true)(y:d<=8):ij (kY v)=Ts v:=by
 have:=pi h y;unfold kY at this⊢;unfold ij;dsimp only;rw[if_pos ⟨rfl,this⟩];cases v<;>rfl
def tJ{d}(y:d<=8):∀(l:List au),(∀s∈l,br d (cg s)=true)->cV (l.map cg)=Ts l
 |[],_=>rfl
 |s::l,h=>by
  rw[WI,cV,og (h s (List.mem_cons_self ..)) y];dsimp only[Xu];rw[tJ y l fun t b=>h t (WW _ b)];rfl
def uN{d:Nat}(y:d<=7){l:List au}(h:br (d+1) (dO (l.map cg))=true)(r:List aQ):iq (dO (l.map cg)::r)=Ts (l,r):=by
 unfold iq bX;dsimp only;rw[mi h Ph];dsimp only[Xb,Xu];rw[tJ (by omega:d<=8) l fun s z=>lQ h _ (Wl.2 ⟨s,z,rfl⟩)]
def jf{n}:dZ n=true↔0<=n/\n<=1099511627776:=by unfold dZ;simp
def FH{p}(h:cR p=true):jl [eC p.log,eC p.at_,cS p.leaf.1,cS p.leaf.2,cS p.sig.e,cS p.sig.s]=Ts p:=by
 unfold cR ik at h;simp only[V7,decide_eq_true_eq]at h;obtain⟨h1,c,A,b⟩:=h;have g1:=jf.1 h1;have g2:=jf.1 c;have f:p.leaf.1<9223372036854775808:=Nat.lt_of_le_of_lt (Nat.le_max_left _ _) (WF A Pi);have g:p.leaf.2<9223372036854775808:=Nat.lt_of_le_of_lt (Nat.le_max_right _ _) (WF A Pi);have j:p.sig.e<9223372036854775808:=Nat.lt_of_le_of_lt (Nat.le_max_left _ _) (WF b Pi);have d:p.sig.s<9223372036854775808:=Nat.lt_of_le_of_lt (Nat.le_max_right _ _) (WF b Pi);unfold jl;rw[iQ g1.1 g1.2];dsimp only[Xu];rw[iQ g2.1 g2.2];dsimp only[Xu];rw[n8 f];dsimp only[Xu];rw[n8 g];dsimp only[Xu];rw[n8 j];dsimp only[Xu];rw[n8 d];dsimp only[Xu];rfl
def tX{d}(y:d<=8):∀(l:List gW),(∀p∈l,br d (fZ p)=true/\cR p=true)->dF (l.map fZ)=Ts l
 |[],_=>rfl
 |p::l,h=>by
  obtain⟨h1,c⟩:=h p (List.mem_cons_self ..);rw[WI,dF];unfold fZ at h1⊢;rw[mi h1 y];dsimp only[Xu];rw[FH c];dsimp only[Xu];have:=tX y l fun q N=>h q (WW _ N);unfold fZ at this;rw[this];rfl
def qd:∀(l:List gW)(n:Int),gY n l=true->∀p∈l,cR p=true
 |[],_,_=>Zbi
 |q::l,n,h=>by
  unfold gY at h;simp only[V7]at h;intro p x;rcases VN.1 x with rfl|x
  .exact h.1
  exact qd l _ h.2.2 p x
def ji{c}(h:dr c=true):gY (-1) c.proms=true/\dZ c.serial=true/\dZ c.from_=true/\dZ c.until_=true/\c.key<Qp/\0<=c.depth/\c.depth<=4:=by
 unfold dr at h;rw[V7]at h;obtain⟨h1,d⟩:=h;split at d
 .cases d
 next a=>
 split at d
 .cases d
 next b=>
 simp only[WU,Wh,decide_eq_true_eq,not_or,Bool.not_eq_false,beq_iff_eq]at a b;refine⟨h1,a.1,a.2.1,a.2.2.1,Ph,?_⟩;split at d
 .simp only[V7,decide_eq_true_eq]at d;exact⟨d.2.2.1,d.2.2.2.1⟩
 simp only[V7,beq_iff_eq]at d;rw[d.2.2.1];exact⟨Pi,Pi⟩
def OO{c}(cf:dr c=true){d:Nat}(y:d<=5)(K:br (d+3) (fI c)=true):
  fl [eC c.serial,cg c.issuer,cg c.subject,cS c.key,dO (c.names.map cg),eC c.from_,eC c.until_,kY c.ca,eC c.depth,dO (c.permit.map cg)]=Ts {c with proms:=[],sig:=⟨0,0⟩}:=by
 obtain⟨_,h1,j,A,m,b,p⟩:=ji cf;have g1:=jf.1 h1;have g2:=jf.1 j;have g3:=jf.1 A;have z:=lQ (d:=d+2) K;have m1:=z (cg c.issuer) Pm;have f:=z (cg c.subject) Pm;have l:=z (dO (c.names.map cg)) Pm;have g:=z (kY c.ca) Pm;have o:=z (dO (c.permit.map cg)) Pm;unfold fl;rw[iQ g1.1 g1.2];dsimp only[Xu];rw[bX,og m1 Ph];dsimp only[Xu,Xb];rw[bX,og f Ph];dsimp only[Xu,Xb];rw[n8 (WF m Pi)];dsimp only[Xu];rw[uN (d:=d+1) Ph l];dsimp only[Xu];rw[iQ g2.1 g2.2];dsimp only[Xu];rw[iQ g3.1 g3.2];dsimp only[Xu];rw[bX,Cm g Ph];dsimp only[Xu,Xb];rw[iQ b Ph];dsimp only[Xu];rw[uN (d:=d+1) Ph o];rfl
def fw{c}(h:bG c=0):dr c=true/\br 8 (jv c)=true/\(cy (jv c)).length<=2048:=by
 unfold bG at h;split at h
 .cases h
 next h1=>
 split at h
 .cases h
 next b=>
 rw[not_or,Xn]at b;have A:=b.1;unfold pG at A;split at A
 .cases A
 next d=>exact⟨Zbu,by simpa using d,Ph⟩
def adC{c:ff}(h:c.sig=⟨0,0⟩):{({c with proms:=[],sig:=⟨0,0⟩}:ff)with proms:=c.proms}=c:=by
 cases c;dsimp only at h;rw[h]
def Mg{x y:aQ}{d b:List aQ}{c:ff}{ps:List gW}(h1:bO x=Ts d)(f:fl d=Ts c)(A:bO y=Ts b)(g:dF b=Ts ps):eI [x,y]=Ts {c with proms:=ps}:=by
 unfold eI;rw[bX,h1];dsimp only[Xb,Xu];rw[f];dsimp only;rw[bX,A];dsimp only[Xb];rw[g];rfl
def CE{c}(h:bG c=0)(L:c.sig=⟨0,0⟩):cz (cy (du c))= .ok c:=by
 obtain⟨cf,K,g⟩:=fw h;have hb:br 7 (du c)=true:=lQ (d:=7) K _ Pm;have f:(cy (du c)).length<=8192:=by
  unfold jv dO at g;rw[li,Vd,mE,Uo]at g;omega
 have S:=IR 8 (du c) [] (pi hb Pi) f;rw[Ww]at S;have x:br 6 (fI c)=true:=lQ (d:=6) hb _ Pm;have N:br 6 (dO (c.proms.map fZ))=true:=lQ (d:=6) hb _ Pm;have b:(bO (du c)).bind eI=Ts c:=by
  have m:bO (du c)=Ts [fI c,dO (c.proms.map fZ)]:=mi (d:=7) hb Pi;rw[m,Option.bind_some];have am:bO (fI c)=Ts [eC c.serial,cg c.issuer,cg c.subject,cS c.key,dO (c.names.map cg),eC c.from_,eC c.until_,kY c.ca,eC c.depth,dO (c.permit.map cg)]:=mi (d:=6) x Pi;have o:=OO cf (d:=3) Pi x;have j:=mi N Pi;have l:=tX (d:=5) Pi c.proms fun p x=>⟨lQ (d:=5) N _ (Wl.2 ⟨p,x,rfl⟩),qd _ _ (ji cf).1 p x⟩;rw[Mg am o j l];exact congrArg Ts (adC L)
 unfold cz;rw[S];dsimp only;rw[if_neg Pm,b];dsimp only;rw[if_pos h]
structure ad4 where
 tag:Int
 f:UV
def MB(k:ad4):UV:=UT #[Ti Tl k.tag,k.f]
def afS:pD ad4:=fun w b o k=>w.cell? ⟨b,o,U8⟩=Ts (Ti Tl k.tag)/\w.cell? ⟨b,o+1,U8⟩=Ts k.f
instance:mj afS:=⟨fun h hE=>⟨ae h.1 hE,ae h.2 hE⟩⟩
def mx(t:Int):FuncId:=if t=1 then 342 else if t=2 then 207 else if t=4 then 343 else if t=12 then 344 else 347
def Ln:List ad4:=[1,2,4,12,48].map fun t=>⟨t,.func (.func (mx t)) #[] #[]⟩
def aU(w:UN):Prop:=cr 2 afS w (Ts ⟨2,0,U8⟩) Ln
def aU.ext(h:aU w)(g:aq w b):aU b:=cr.ext h g
def G6(F f)(p:UInt8->Bool)(l a n cap w)(cf:kI F f w l (fun c=>Ti Uy (c.toNat:Int)) p)(z:l.length=n)(hn:n<=1000000000)(B:n<=cap)(h:aY w a l):
  VB UB 348 #[Tm a n cap,.func (.func F) #[] f] w (bM (Ti Tl (kR p l)) w):=by
 refine P3 z h cf fun y H E=>have G:=cf.enters;?_;go_enter func348,ntmps348;go_wp2;go_loopw [8] (fun j wr=>∃k:Nat,k<=n/\j=Ti Tl k/\(l.take k).all (fun x=> !p x)=true/\aq w wr) (fun j _=>n-(VS j).toNat)
 case atStart=>exact⟨0,VF _,rfl,rfl,P0⟩
 obtain⟨k,o,rfl,q,g⟩:=hrel;refine P4 g q fun ys d=>?_;by_cases R:k<n
 .obtain⟨x,m⟩:=ay y R;have A:=Tn (E.does x (Uv m));obtain⟨b,off,rfl,C⟩:=(H.ext ys) k x m;have u:=Tn m;go_wp2_with fail;refine P2 (A _ (ys)) fun I D=>have r:=Tn (aa ys D);?_;cases s:p x with
  |true=>
   have Z:=Tn (kW u s d);go_wp2;go_ret;exact⟨Ps,r⟩
  |false=>
   have t:=Tn (show(l.take (k+1)).all (fun x=> !p x)=true by rw[fv u.out,d.out,s];rfl);go_wp2;go_roundw
   case rel=>exact⟨k+1,Ph,Pt,t,r⟩
   case measure=>simp[VS];omega
 obtain rfl:k=n:=by omega
 rw[VD (l:=l) (i:=k) (by rw[y.out];exact UY _)]at d;have Z:=Tn (lr d);exact Tc
def Gq(F d)(p:ad4->Bool)(l a n cap w)(cf:kI F d w l MB p)(y:l.length=n)(hn:n<=1000000000)(A:n<=cap)(h:cr 2 afS w a l):
  VB UB 285 #[Tm a n cap,.func (.func F) #[] d] w (bM (Ti Tl (kR p l)) w):=by
 refine P3 y h cf fun u H E=>have G:=cf.enters;?_;go_enter func285,ntmps285;go_wp2;go_loopw [8] (fun j wr=>∃k:Nat,k<=n/\j=Ti Tl k/\(l.take k).all (fun x=> !p x)=true/\aq w wr) (fun j _=>n-(VS j).toNat)
 case atStart=>exact⟨0,VF _,rfl,rfl,P0⟩
 obtain⟨k,o,rfl,f,g⟩:=hrel;refine P4 g f fun ys c=>?_;by_cases R:k<n
 .obtain⟨x,m⟩:=ay u R;have z:=Tn (E.does x (Uv m));obtain⟨b,off,rfl,B,C⟩:=(H.ext ys) k x m;have t:=Tn m;go_wp2_with fail;refine P2 (z _ (ys)) fun I D=>have q:=Tn (aa ys D);?_;cases r:p x with
  |true=>
   exact TQ
  |false=>
   have s:=Tn (show(l.take (k+1)).all (fun x=> !p x)=true from RA);go_wp2;go_roundw
   case rel=>exact⟨k+1,Ph,Pt,s,q⟩
   case measure=>simp[VS];omega
 exact TN
def ab6(x y:UInt8):((x.toNat:Int) !=-((y.toNat:Int)/128)%256)= !(x==0-y/128):=by
 have U:y.toNat<256:=y.toNat_lt;have m:x.toNat<256:=x.toNat_lt;have e:(0-y/128:UInt8).toNat=(256-y.toNat/128)%256:=by
  rw[UInt8.toNat_sub,UInt8.toNat_div];rfl
 have b:(x=0-y/128)↔x.toNat=(256-y.toNat/128)%256:=by
  rw[<-e];exact⟨fun h=>by rw[h],fun h=>UInt8.toNat_inj.1 h⟩
 rw[YH];simp only[bne_iff_ne,ne_eq,Wh,beq_eq_false_iff_ne];rw[b];omega
def yR(s:au)(v w)(z:aJ w v s)(p:s.length<=1000000000):VB UB 207 #[v] w (bM (U1 (gj s)) w):=by
 obtain⟨a,c,rfl,h1,C,A⟩:=z;match s,A,h1,p with
 |[],_,_,_=>
  go_enter func207,ntmps207;exact Tf
 |[_],_,_,_=>
  go_enter func207,ntmps207;exact Tf
 |x::y::t,A,h1,p=>
  obtain⟨b,off,rfl,d⟩:=A 0 x rfl;obtain⟨B,r,hb,f⟩:=A 1 y rfl;cases hb;rw[YF]at d;refine P1 t.length fun N o=>?_;simp only[Up]at h1 p⊢;have m:Hid (gj (x::y::t)=(decide (t.length<=6)&& !(x==0-y/128))):=Tn rfl;rw[o]at h1 p m⊢;obtain⟨Z,l⟩:∃Z,(!(x==0-y/128))=Z:=⟨_,rfl⟩;rw[l]at m;refine P3 ((ab6 x y).trans l) d f fun u g j=>?_;rw[m.out];by_cases q:N<=6
  .rw[decide_eq_true q,Wo];go_enter func207,ntmps207;have d:=g.out;have f:=j.out;go_wp2_with fail;(try rw[u.out]);go_ret;exact⟨rfl,P0⟩
  rw[decide_eq_false q,Bool.false_and];go_enter func207,ntmps207;have d:=g.out;have f:=j.out;exact Tf
def Fj(v:UV)(w:UN):VB UB 343 #[v] w (bM (U1 true) w):=by
 go_enter func343,ntmps343;exact Tf
def GJ(s:au)(v w)(z:aJ w v s)(p:s.length<=1000000000):VB UB 347 #[v] w (bM (U1 s.isEmpty) w):=by
 obtain⟨a,c,rfl,h1,d,A⟩:=z;have Z:Hid (s.isEmpty=((s.length:Int)==0)):=Tn (by cases s<;>simp;omega);rw[Z.out];refine P1 s.length fun N b=>?_;rw[b]at h1 p⊢;go_enter func347,ntmps347;go_wp2;go_ret;exact⟨Pm,P0⟩
def EM(c:UInt8):Bool:=decide ((c.toNat:Int)<32)||decide ((126:Int)<(c.toNat:Int))
def BX(c:UInt8)(w:UN):VB UB 346 #[Ti Uy (c.toNat:Int)] w (bM (U1 (EM c)) w):=by
 unfold EM;go_enter func346,ntmps346;go_upto_region 1 with fail;refine aG (fun b=>aq w b) P0 ?_;repeat
  (first|refine az rfl rfl rfl rfl ?_|refine aF rfl rfl rfl rfl ?_|refine aw rfl ?_|refine aj rfl rfl rfl rfl rfl ?_|((first|refine av (v:=?_) rfl rfl (fun hb b l=>?_) ?_|refine ar (v:=?_) rfl rfl rfl (fun d hb b l=>?_) ?_|refine ax (v:=?_) rfl (fun b l=>?_) ?_);rotate_left;(focus(have f0:=l;unfold ak;go_simp;first|exact aD l))))
  simp only[Act.put,P7]
 refine aA fun b g=>?_;go_wp2;go_ret;exact⟨rfl,g⟩
def JE(s:au):I0 s= !(s.any EM):=by
 unfold I0;rw[List.any_eq_not_all_not,Bool.not_not];congr 1;funext c;unfold EM;have h1:decide ((32:UInt8)<=c)= !decide ((c.toNat:Int)<32):=by
  exact UQ
 have b:decide (c<=(126:UInt8))= !decide ((126:Int)<(c.toNat:Int)):=by
  exact UQ
 rw[h1,b,Bool.not_or]
def EK(w:UN)(l:au):kI 346 #[] w l (fun c=>Ti Uy (c.toNat:Int)) EM where
 enters:=Vv func346 Pg rfl
 does:=fun c _ W _=>BX c W
def IB{α:Type}(p:α->Bool)(l:List α):decide ((0:Int)<=kR p l)=l.any p:=by
 rcases gI p l with⟨h1,_,A⟩|⟨i,x,h1,_,_,_,A⟩
 .rw[h1,A];rfl
 rw[h1,A];simp
def Gn(F b)(p:UInt8->Bool)(l:au)(a n cap w)(cf:kI F b w l (fun c=>Ti Uy (c.toNat:Int)) p)(g:l.length=n)(hn:n<=1000000000)(f:n<=cap)(h:aY w a l):
  VB UB 345 #[Tm a n cap,.func (.func F) #[] b] w (bM (U1 (l.any p)) w):=by
 refine P5 g h cf (IB p l) fun o H q m=>?_;go_enter func345,ntmps345;go_wp2_with fail;refine P2 (G6 F b p l a n cap w q o hn f H) fun r D=>have d:=Tn D;P1 (kR p l) fun I j=>?_;rw[j]at m⊢;go_wp2;go_ret;exact⟨by rw[<-m.out];rfl,d⟩
def Fv(s:au)(v w)(z:aJ w v s)(p:s.length<=1000000000):VB UB 344 #[v] w (bM (U1 (I0 s)) w):=by
 obtain⟨a,c,rfl,h1,m,A⟩:=z;refine P4 (JE s) A fun f g=>P1 s.length fun N b=>?_;rw[b]at h1 p⊢;have j:=Tn b;go_enter func344,ntmps344;go_wp2_with fail;refine P2 (Gn 346 #[] EM s a N c w (EK w s) j p h1 g) fun l D=>have F:=Tn D;P1 (s.any EM) fun I d=>?_;rw[d]at f⊢;go_wp2;go_ret;exact⟨by rw[f.out];rfl,F⟩
def ahP(b:au):(b==[0]||b==[255])=(match b with|[x]=>(x==0||x==255)|_=>false):=by
 match b with
 |[]=>rfl
 |[x]=>simp
 |x::y::t=>simp
def Gh(s:au)(v w)(z:aJ w v s)(p:s.length<=1000000000):VB UB 342 #[v] w (bM (U1 (s==[0]||s==[255])) w):=by
 rw[ahP];obtain⟨a,c,rfl,h1,q,A⟩:=z;match s,A,h1,p with
 |[],_,_,_=>
  go_enter func342,ntmps342;exact Tf
 |x::y::t,_,h1,p=>
  refine P1 t.length fun N l=>?_;simp only[Up]at h1 p⊢;rw[l]at h1 p⊢;clear l;go_enter func342,ntmps342;exact Tf
 |[x],A,h1,_=>
  obtain⟨b,off,rfl,d⟩:=A 0 x rfl;rw[YF]at d;have am:((x.toNat:Int)==0)=(x==0):=by
   rw[YH];simp only[beq_iff_eq];rw[<-UInt8.toNat_inj];simp
  have f:((x.toNat:Int)==255)=(x==255):=by
   rw[YH];simp only[beq_iff_eq];rw[<-UInt8.toNat_inj];simp;omega
  simp only[Up,VJ]at h1⊢;have o:1<=c:=h1;show VB _ _ #[Tm (Ts ⟨b,off,U8⟩) 1 c] _ _
  clear A;by_cases k0:(x.toNat:Int)=0
  .have Z:Hid ((x==0||x==255)=true):=Tn (by rw[<-am,<-f];simp[k0]);rw[Z.out];rw[k0]at d;clear am f k0;go_enter func342,ntmps342;exact Tf
  by_cases j:(x.toNat:Int)=255
  .have Z:Hid ((x==0||x==255)=true):=Tn (by rw[<-am,<-f];simp[j]);rw[Z.out];rw[j]at d;clear am f k0 j;go_enter func342,ntmps342;exact Tf
  have Z:Hid ((x==0||x==255)=false):=Tn (by rw[<-am,<-f];simp;exact⟨Ph,Ph⟩);rw[Z.out];have m:Hid (((x.toNat:Int)==255)=false):=Tn Pp;have g:Hid (((x.toNat:Int)==0)=false):=Tn Pp;clear am f;go_enter func342,ntmps342;go_wp2;go_ret;exact⟨by first|rfl|(rw[m.out,g.out];rfl)|(rw[g.out];rfl)|(rw[m.out];rfl),P0⟩
def yY(t:Int)(k:ad4):Bool:=decide (k.tag=t)
def Kv(k t b w)(hb:VX w b 3 (Ti Tl t)):VB UB 286 #[MB k,UK (Ts ⟨b,0,U8⟩)] w (bM (U1 (yY t k)) w):=by
 have g:=Tn hb;refine P1 w.heap.size fun D C=>P1 (w.alloc (Tq #[Ti Tl k.tag,k.f] 341)) fun c d=>have B:=Tn (show aq w c from Pq);have z0:c.cell? ⟨D,0,U8⟩=Ts (Ti Tl k.tag):=Pk;have j:=(aC B g).cell;?_;unfold MB;go_enter func286,ntmps286;exact Um
def acX{b t}(hb:VX w b 3 (Ti Tl t))(l):kI 286 #[UK (Ts ⟨b,0,U8⟩)] w l MB (yY t) where
 enters:=Vv func286 Pg rfl
 does:=fun k _ W g=>Kv k t b W (aC g hb)
def ad6(t:Int):ad4:=⟨t,.func (.func (mx t)) #[] #[]⟩
def Kg(t):Ln.find? (yY t)=if cC t then Ts (ad6 t)else U8:=by
 by_cases h1:t=1
 .subst h1;rfl
 by_cases c:t=2
 .subst c;rfl
 by_cases A:t=4
 .subst A;rfl
 by_cases b:t=12
 .subst b;rfl
 by_cases d:t=48
 .subst d;rfl
 have o:cC t=false:=by unfold cC;simp[h1,c,A,b,d]
 rw[o,if_neg Pi,List.find?_eq_none];intro k o;unfold Ln at o;simp only[WI,Ym,PD]at o;unfold yY;simp only[decide_eq_true_eq];rcases o with rfl|rfl|rfl|rfl|rfl<;>simp only<;>omega
def lS(t:Int):UV:=if cC t then MB (ad6 t)else UT #[Ti Tl 0,.nilFunc]
def Cb(t w)(h:aU w):
  VB UB 246 #[Ti Tl t] w (bM (UW #[lS t,U1 (cC t)]) w):=by
 refine P1 w.heap.size fun D C=>P1 ((w.alloc (Tq #[Ti Tl t] 3)).alloc (Tq #[Ti Tl 0,Value.nilFunc] 341)) fun f d=>have B:=Tn (show aq w f from Pz);have Q:Hid (VX f D 3 (Ti Tl t)):=Tn X5;?_
 have I:Hid (f.heap[D+1]?=Ts (Tq #[Ti Tl 0,Value.nilFunc] 341 (0,0))):=Tn (by
  rw[<-d,<-C];have:=UZ (w.alloc (Tq #[Ti Tl t] 3)) (Tq #[Ti Tl 0,Value.nilFunc] 341)
  rwa[Ud]at this)
 have O:w.heap.size<=D+1:=Ph;have H:=Tn (h.ext B);go_enter func246,ntmps246;go_upto_region 1 with fail;try rw[d]
 try rw[C]
 clear d C;go_wp2_with fail;refine P2 (Gq 286 _ (yY t) Ln _ 5 5 _ (acX Q Ln) rfl Pi (UY _) H) fun z q=>have s:=Tn q;have u:=(q.block (D+1) (UE.1 I).1).trans I;have P:=Tn u;PM u fun V am=>PO u fun U g1=>have l:=Kg t;?_;rcases gI (yY t) Ln with⟨h1,c,_⟩|⟨i,x,h1,m,T,c,_⟩
 .have b:cC t=false:=by
   cases o:cC t with
   |false=>rfl
   |true=>rw[o,if_pos rfl,c]at l;cases l
  have r:Hid (lS t=UT #[Ti Tl 0,.nilFunc]):=Tn (by unfold lS;rw[b];rfl);have F:=Tn b;rw[h1];clear b;have E:=bz P O (aa B s) (Ti Tl 0) .nilFunc;refine PI z (D+1) (Ti Tl 0) .nilFunc fun y p=>?_;rw[p]at E;refine P4 p E fun G j=>?_;clear p;go_wp2_with fail;rw[G.out];exact PM j.1 fun q0 q1=>VC (v:=UW #[UT #[Ti Tl 0,.nilFunc],U1 false]) Sn rfl ⟨by rw[r.out,F.out],j.2⟩
 have b:cC t=true:=by
  cases o:cC t with
  |true=>rfl
  |false=>rw[o,if_neg Pi,c]at l;cases l
 rw[b,if_pos rfl,c]at l;obtain rfl:=Vm l;have r:Hid (lS t=UT #[Ti Tl t,.func (.func (mx t)) #[] #[]]):=Tn (by unfold lS;rw[b];rfl);have F:=Tn b;have S:i<5:=(UU.1 m).1;obtain⟨g,off,R,J,N⟩:=((aU.ext H s)) i _ m;cases R;have K:z.cell? ⟨2,0+i*2,U8⟩=Ts (Ti Tl t):=J;have A:z.cell? ⟨2,0+i*2+1,U8⟩=Ts (.func (.func (mx t)) #[] #[]):=N;rw[VY]at K A;rw[h1];refine P1 (mx t) fun M L=>?_;rw[L]at A r;clear b L;have E:=bz P O (aa B s) (Ti Tl t) (.func (.func M) #[] #[]);refine PI z (D+1) (Ti Tl t) (.func (.func M) #[] #[]) fun y p=>?_;rw[p]at E;refine P4 p E fun G j=>?_;clear p;go_wp2_with fail;rw[G.out];exact PM j.1 fun q0 q1=>VC (v:=UW #[UT #[Ti Tl t,.func (.func M) #[] #[]],U1 true]) Sn rfl ⟨by rw[r.out,F.out],j.2⟩
section
structure bU where
 t:Int
 ba:Option VW
 bl:Nat
 bc:Nat
 la:Option VW
 ll:Nat
 lc:Nat
def bw(x:bU):UV:=UT #[Ti Tl x.t,Tm x.ba x.bl x.bc,Tm x.la x.ll x.lc]
def vg:pD bU:=fun w b o x=>w.cell? ⟨b,o,U8⟩=Ts (Ti Tl x.t)/\w.cell? ⟨b,o+1,U8⟩=Ts (Tm x.ba x.bl x.bc)/\w.cell? ⟨b,o+2,U8⟩=Ts (Tm x.la x.ll x.lc)
instance:mj vg:=⟨fun h hE=>⟨ae h.1 hE,ae h.2.1 hE,ae h.2.2 hE⟩⟩
mutual
def bK(w:UN):aQ->bU->Prop
 | .mk t bs l,x=>x.t=t/\x.bl=bs.length/\bs.length<=x.bc/\x.bc<=VL/\aY w x.ba bs/\x.ll=l.length/\l.length<=x.lc/\x.lc<=VL/\fX w x.la 0 l
def fX(w:UN)(la:Option VW):Nat->List aQ->Prop
 |_,[]=>True
 |i,y::l=>(∃b o x,la=Ts ⟨b,o,U8⟩/\vg w b (o+i*3) x/\bK w y x)/\fX w la (i+1) l
end
mutual
def bK.ext{w b}(g:aq w b):∀(y:aQ){x:bU},bK w y x->bK b y x
 | .mk t bs l,x,h=>by
  rw[bK]at h⊢;obtain⟨L,h1,c,A,o,f,m,j,d⟩:=h;exact⟨L,h1,c,A,o.ext g,f,m,j,fX.ext g x.la 0 l d⟩
def fX.ext{w d}(g:aq w d)(la):∀(i:Nat)(l:List aQ),fX w la i l->fX d la i l
 |_,[],_=>SF
 |i,y::l,h=>by
  rw[fX]at h⊢;obtain⟨⟨b,o,x,h1,c,A⟩,f⟩:=h;exact⟨⟨b,o,x,h1,mj.ext c g,bK.ext g y A⟩,fX.ext g la (i+1) l f⟩
end
def fW:pD (aQ×bU):=fun w b o p=>vg w b o p.2
instance:mj fW:=⟨fun h hE=>mj.ext (R:=vg) h hE⟩
def wR{w la}:∀(l:List aQ)(i:Nat),fX w la i l->∃f:List (aQ×bU),f.map (·.1)=l/\(∀j p,f[j]?=Ts p->∃b o,la=Ts ⟨b,o,U8⟩/\vg w b (o+(i+j)*3) p.2)/\∀p∈f,bK w p.1 p.2
 |[],_,_=>⟨[],rfl,fun j p d=>by simp at d,fun p d=>by cases d⟩
 |y::l,i,h=>by
  rw[fX]at h;obtain⟨⟨b,o,x,h1,c,A⟩,t⟩:=h;obtain⟨f,q,m,g⟩:=wR l (i+1) t;refine⟨(y,x)::f,by rw[WI,q],fun j p d=>?_,fun p d=>?_⟩
  .cases j with
   |zero=>cases d;exact⟨b,o,h1,by rw[YF];exact c⟩
   |succ j=>
    obtain⟨r,o',m1,s⟩:=m j p d;exact⟨r,o',m1,by rw[show i+(j+1)=i+1+j from Ph];exact s⟩
  cases d with
  |head=>exact A
  |tail _ d=>exact g p d
def wY{w la}:∀(d:List (aQ×bU))(i:Nat),(∀j p,d[j]?=Ts p->∃b o,la=Ts ⟨b,o,U8⟩/\vg w b (o+(i+j)*3) p.2)->(∀p∈d,bK w p.1 p.2)->fX w la i (d.map (·.1))
 |[],_,_,_=>by rw[Ym,fX];trivial
 |p::d,i,h,J=>by
  rw[WI,fX];refine⟨?_,wY d (i+1) (fun j q N=>?_) (fun q N=>J q (.tail _ N))⟩
  .obtain⟨b,o,h1,c⟩:=h 0 p rfl;rw[YF]at c;exact⟨b,o,p.2,h1,c,J p (.head _)⟩
  obtain⟨b,o,h1,c⟩:=h (j+1) q N;exact⟨b,o,h1,by rw[show i+1+j=i+(j+1)from Ph];exact c⟩
def sP{w la}{l:List aQ}(h:fX w la 0 l):∃d:List (aQ×bU),d.map (·.1)=l/\cr 3 fW w la d/\∀p∈d,bK w p.1 p.2:=by
 obtain⟨d,h1,c,A⟩:=wR l 0 h;refine⟨d,h1,fun j p x=>?_,A⟩;obtain⟨b,o,g,f⟩:=c j p x;rw[VY]at f;exact⟨b,o,g,f⟩
def xf{w la}{c:List (aQ×bU)}(h:cr 3 fW w la c)(J:∀p∈c,bK w p.1 p.2):fX w la 0 (c.map (·.1)):=wY c 0 (fun j p x=>by
 obtain⟨b,o,f,d⟩:=h j p x
 exact⟨b,o,f,by rw[VY];exact d⟩) J
def Eu(F d)(p:(aQ×bU)->Bool)(l:List (aQ×bU))(a n cap w)(cf:kI F d w l (fun p=>bw p.2) p)(y:l.length=n)(hn:n<=1000000000)(B:n<=cap)(h:cr 3 fW w a l):
  VB UB 287 #[Tm a n cap,.func (.func F) #[] d] w (bM (Ti Tl (kR p l)) w):=by
 refine P3 y h cf fun u H G=>have I:=cf.enters;?_;go_enter func287,ntmps287;go_wp2;go_loopw [8] (fun j wr=>∃k:Nat,k<=n/\j=Ti Tl k/\(l.take k).all (fun x=> !p x)=true/\aq w wr) (fun j _=>n-(VS j).toNat)
 case atStart=>exact⟨0,VF _,rfl,rfl,P0⟩
 exact Sr
def C8(d)(l:List aQ):nJ d l=l.all (br d):=by
 induction l with
 |nil=>rw[nJ];rfl
 |cons x l b=>rw[nJ,b,List.all_cons]
def vQ(F b)(p:aQ×bU->Bool)(l:List (aQ×bU))(a n cap w)(cf:kI F b w l (fun p=>bw p.2) p)(f:l.length=n)(hn:n<=1000000000)(d:n<=cap)(h:cr 3 fW w a l):
  VB UB 247 #[Tm a n cap,.func (.func F) #[] b] w (bM (U1 (l.any p)) w):=by
 refine P5 f h cf (IB p l) fun m H o j=>?_;go_enter func247,ntmps247;go_wp2_with fail;refine P2 (Eu F b p l a n cap w o m hn d H) fun q D=>have c:=Tn D;P1 (kR p l) fun I g=>?_;rw[g]at j⊢;go_wp2;go_ret;exact⟨by rw[<-j.out];rfl,c⟩
def wh(t)(o:cC t=true)(s:au)(v w)(z:aJ w v s)(p:s.length<=1000000000):VB UB (mx t) #[v] w (bM (U1 (jp t s)) w):=by
 unfold cC at o;simp only[WU,beq_iff_eq]at o;rcases o with rfl|rfl|rfl|rfl|rfl
 .exact Gh s v w z p
 .exact yR s v w z p
 .exact Fj v w
 .exact Fv s v w z p
 exact GJ s v w z p
def Iz(t):∀args w,(Wu (mx t) args).run UB w= .ok (.enter (mx t) args) w:=by
 unfold mx;split
 .exact Vv func342 Pg rfl
 split
 .exact Vv func207 Pg rfl
 split
 .exact Vv func343 Pg rfl
 split
 .exact Vv func344 Pg rfl
 exact Vv func347 Pg rfl
mutual
def bi:aQ->Prop
 | .mk _ b l=>b.length<=1000000/\l.length<=1000000/\b8 l
def b8:List aQ->Prop
 |[]=>True
 |x::l=>bi x/\b8 l
end
def qp:∀{l:List aQ},b8 l->∀x∈l,bi x
 |[],_,x,m=>Zb1
 |y::l,h,x,m=>by
  rw[b8]at h;cases m with
  |head=>exact h.1
  |tail _ m=>exact qp h.2 x m
def xA(d:Nat):Prop:=∀(y:aQ)(x:bU)(w:UN),aU w->bK w y x->bi y->VB UB 204 #[bw x,Ti Tl (d:Int)] w (bM (U1 (br d y)) w)
def AL{d t}{bs:au}{l:List aQ}(h:cC t=false):br d (.mk t bs l)=false:=by
 cases d with
 |zero=>rw[br]
 |succ d=>rw[br,h,Bool.false_and]
def JI(d:Nat)(A:d<=100)(m:xA d)(y:aQ)(x b w)(hb:VX w b 3 (Ti Tl ((d:Int)+1)))(H:aU w)(l:bK w y x)(z:bi y):
  VB UB 248 #[bw x,UK (Ts ⟨b,0,U8⟩)] w (bM (U1 (!br d y)) w):=by
 refine P1 w.heap.size fun D C=>P1 (w.alloc (Tq #[Ti Tl x.t,Tm x.ba x.bl x.bc,Tm x.la x.ll x.lc] 245)) fun f c=>have B:=Tn (show aq w f by rw[<-c];exact af P0 _);have z0:f.cell? ⟨D,0,U8⟩=Ts (Ti Tl x.t):=Xh;have u:f.cell? ⟨D,1,U8⟩=Ts (Tm x.ba x.bl x.bc):=Xh;have r:f.cell? ⟨D,2,U8⟩=Ts (Tm x.la x.ll x.lc):=Xh;have z3:=(aC B hb).cell;have j:=Tn (m y x f (H.ext B) (bK.ext B y l) z);?_;unfold bw at j⊢;go_enter func248,ntmps248;go_upto_region 1 with fail;try rw[c]
 try rw[C]
 go_wp2_with fail;refine P2 j fun p q=>have s:=Tn (aa B q);P1 (br d y) fun M g=>have o:=Tn g;?_;rw[g];go_wp2;go_ret;exact⟨by rw[o.out];rfl,s⟩
def adJ{d:Nat}(y:d<=100)(f:xA d){b w}{c:List (aQ×bU)}(hb:VX w b 3 (Ti Tl ((d:Int)+1)))(H:aU w)(j:∀p∈c,bK w p.1 p.2)(z:∀p∈c,bi p.1):
  kI 248 #[UK (Ts ⟨b,0,U8⟩)] w c (fun p=>bw p.2) (fun p=> !br d p.1) where
 enters:=Vv func248 Pg rfl
 does:=fun p x W g=>JI d y f p.1 p.2 b W (aC g hb) (H.ext g) (bK.ext g p.1 (j p x)) (z p x)
def M1(d)(hd:d<=100)(ih:∀k,k<d->xA k):xA d:=by
 intro y x w H hC hsm;obtain⟨t,bs,l⟩:=y;rw[bK]at hC;obtain⟨rfl,hbl,U,hbm,T,hll,M,hlm,X⟩:=hC;rw[bi]at hsm;obtain⟨hs1,hs2,hs3⟩:=hsm;obtain⟨t,ba,bl,bc,la,ll,lc⟩:=x;simp only at hbl U hbm T hll M hlm X⊢;subst hbl;subst hll;obtain⟨S,ad,hsl,hcx⟩:=sP X;refine P4 ad hcx fun HLX HCX=>have HBV:Hid (aJ w (Tm ba bs.length bc) bs):=Tn ⟨_,_,rfl,U,hbm,T⟩;have HS3:=Tn hs3;P1 w.heap.size fun D C=>P1 ((w.alloc (Tq #[Ti Tl t,Tm ba bs.length bc,Tm la l.length lc] 245)).alloc (Tq #[Ti Tl (d:Int)] 3)) fun f o=>have B:=Tn (show aq w f by rw[<-o];exact af (af P0 _) _);have z0:f.cell? ⟨D,0,U8⟩=Ts (Ti Tl t):=Xi;have z1:f.cell? ⟨D,1,U8⟩=Ts (Tm ba bs.length bc):=Xi;have z2:f.cell? ⟨D,2,U8⟩=Ts (Tm la l.length lc):=Xi;have HB1:Hid (VX f (D+1) 3 (Ti Tl (d:Int))):=Tn (by rw[<-o,<-C];have:=Boxed.new (w.alloc (Tq #[Ti Tl t,Tm ba bs.length bc,Tm la l.length lc] 245)) 3 (Ti Tl (d:Int));rwa[Ud]at this);PC z1 z2 z0 (H.ext B) (hsl.ext B) fun HZ1 HZ2 HZ0 HK HSL=>P1 bs.length fun BL F=>P1 l.length fun LL r=>have HLL:Hid (S.length=LL):=Tn (by rw[<-r,<-ad,VR]);have R:=F;P4 R r fun HBL Q=>?_;rw[F]at hs1 U z1 HZ1 HBV;rw[r]at hs2 M z2 HZ2;have HDD:=Tn C;unfold bw;simp only;rw[F,r];rw[F,r]at o;go_enter func204,ntmps204;go_upto_region 1 with fail;try rw[o]
 try rw[C]
 go_wp2_with fail;refine P2 (Cb t _ HK) fun W1 q=>P4 q (aa B q) fun s P=>have y0:=ae HZ0 q;have y1:=ae HZ1 q;have y2:=ae HZ2 q;have yb:=(aC q HB1).cell;?_;cases m:cC t with
 |false=>
  have Z:=Tn (AL (d:=d) (bs:=bs) (l:=l) m);rw[show lS t=UT #[Ti Tl 0,.nilFunc] by unfold lS;rw[m];rfl];go_wp2;go_ret;exact⟨Ps,af P _⟩
 |true=>
  have HKN:=Tn m;rw[show lS t=UT #[Ti Tl t,.func (.func (mx t)) #[] #[]] by unfold lS;rw[m];rfl];have eg:=Iz t;refine P1 (mx t) fun KF W=>?_;rw[W]at eg⊢;have HKF:=Tn W;refine P1 W1.heap.size fun E g=>P1 (W1.alloc (Tq #[Ti Tl t,.func (.func KF) #[] #[]] 341)) fun I Y=>have c:=Tn (show aq W1 I from QQ);?_;have k0:I.cell? ⟨E,0,U8⟩=Ts (Ti Tl t):=by rw[<-Y,<-g];simp[go_sem]
  have k1:I.cell? ⟨E,1,U8⟩=Ts (.func (.func KF) #[] #[]):=by rw[<-Y,<-g];simp[go_sem]
  go_upto_region 2 with fail;try rw[Y]
  try rw[g]
  refine P9 (aa P c) (ae y0 c) (ae y1 c) (ae y2 c) (ae yb c) (aa s c) fun z HY0 HY1 HY2 HYB HW2=>have y0:=HY0.out;have y1:=HY1.out;have y2:=HY2.out;have yb:=HYB.out;?_;by_cases L:d=0
  .subst L;have Z:Hid (br 0 (.mk t bs l)=false):=Tn (by rw[br]);go_wp2;go_ret;exact⟨Ps,z⟩
  obtain⟨j,rfl⟩:∃j,d=j+1:=⟨d-1,Ph⟩;have HIH:=Tn (ih j Ph);have HR0:Hid (br (j+1) (.mk t bs l)=(jp t bs&&((t==48||l.isEmpty)&&nJ j l))):=Tn (by rw[br,m,Wo]);go_wp2_with fail
  refine(show VB UB KF #[Tm ba BL bc] I (bM (U1 (jp t bs)) I)from by
   rw[<-HKF.out]
   exact wh t HKN bs _ I (HBV.ext z) (by rw[HBL.out];omega)).mono ?_
  rintro e O⟨rfl,V⟩;refine P4 (aa z V) (aa HW2 V) fun Id K=>have x0:=ae HY0 V;have x2:=ae HY2 V;?_;cases N:jp t bs with
  |false=>
   have Z:Hid (br (j+1) (.mk t bs l)=false):=Tn (by rw[HR0.out,N,Bool.false_and]);exact UI
  |true=>
   have ab:Hid (br (j+1) (.mk t bs l)=((t==48||l.isEmpty)&&nJ j l)):=Tn (by rw[HR0.out,N,Wo]);have HFN:=Tn (adJ Ph HIH (aC K HB1) (HK.ext K) (fun p hp=>bK.ext Id p.1 (HCX p hp)) (fun p hp=>qp HS3 p.1 (by rw[<-HLX.out];exact List.mem_map_of_mem hp)))
   have J:Hid ((!(S.any fun p=> !br j p.1))=nJ j l):=Tn (by
    rw[C8,<-HLX.out,List.all_map,List.any_eq_not_all_not,Bool.not_not];congr 1;funext p
    simp)
   by_cases ht:t=48
   .have G:Hid (br (j+1) (.mk t bs l)=nJ j l):=Tn (by rw[ab.out,ht];rfl);go_wp2_with fail;exact P2 (vQ 248 _ (fun p=> !br j p.1) S la LL lc O HFN HLL Ph M (HSL.ext K)) fun W4 u=>TX
   have ht':(t !=48)=true:=by simp[ht]
   by_cases hL:LL=0
   .subst hL
    have G:Hid (br (j+1) (.mk t bs l)=nJ j l):=Tn (by
     rw[ab.out,VA Q.out]
     simp)
    go_wp2_with fail;exact P2 (vQ 248 _ (fun p=> !br j p.1) S la 0 lc O HFN HLL Ph M (HSL.ext K)) fun W4 u=>TX
   have hL':decide (0<LL)=true:=by simp;omega
   have G:Hid (br (j+1) (.mk t bs l)=false):=Tn (by
    have zs:l.isEmpty=false:=by
     cases hl:l with
     |nil=>exact absurd (by rw[<-Q.out,hl];rfl) hL
     |cons a b=>rfl
    have h48:(t==48)=false:=by simp[ht]
    rw[ab.out,zs,h48];rfl)
   go_wp2;go_ret;exact⟨by rw[G.out];rfl,Id⟩
def nW:∀d,d<=100->xA d:=by
 intro d;induction d using Nat.strongRecOn with
 |_ d b=>exact fun y=>M1 d y fun k o=>b k o Ph
end
def BK(w:UN)(s:au)(e:Xo)(b:UN):Prop:=∃v,e=UO v/\b.ownsRow w.heap.size 5 1 v s.length (VH s)/\aq w b
def nh(s:au)(v w)(B:aJ w v s)(p:s.length<=1000000000):VB UB 208 #[v] w (BK w s):=by
 obtain⟨i0,hi,j,d,f⟩:=WN lz;obtain⟨a,c,rfl,h1,u,A⟩:=B;have x:=Tn A;refine P1 s.length fun n hn=>have t:=Tn hn;?_;rw[hn]at p h1⊢;have q:∀(w:UN)(a:Option VW)(n c l m:Nat),(binOp .eql 37 (Tm a n c) (Tm U8 l m)).run UB w= .ok (U1 a.isNone) w:=fun w a n c l m=>Lib.run_eql_slice_nil w _ _ a n c l m underlying37;cases a with
 |none=>
  have L:=eh x;have z:s=[]:=VA L;subst z;go_enter func208,ntmps208;exact U5
 |some C=>
  go_enter func208,ntmps208
  go_wp2_with (
         at_builtin
         refine aX rfl _ _ 37 rfl w.heap.size 5 i0 (Ti Uy 0) 1 1 underlying37 hi j d f rfl Pi _ _ _ rfl (World.ownsRow_made w #[] 0 (UY _) (VF _) rfl) (Ts C) n c (VH s) rfl (by rw[bC,Nat.mul_one];exact t.out) (aY.news (x.ext (af P0 _))) (fun e=>RH) (dM s) Pr Ph Pm ?_
         intro E y r b
         refine P4 r (ZB (af P0 _) b (fun k o=>by have u:Ts w.heap.size=Ts k:=o;cases u;exact UY _)) fun D g=>?_
         clear r b)
  go_ret;refine⟨_,rfl,?_,g⟩;have:=D.out;rw[VY,Vd]at this;rw[t.out];exact this
def cQ(w:UN)(vs:List UV)(t):∀(j:Nat)(u:UV),vs[j]?=Ts u->(w.alloc (Tq vs.toArray t)).cell? ((⟨w.heap.size,0,U8⟩:VW).add j)=Ts u:=by
 intro j u h;have e:((⟨w.heap.size,0,U8⟩:VW).add j)=⟨w.heap.size,j,U8⟩:=by
  unfold ZL;by_cases L:j=0
  .subst L;rfl
  simp[L]
 rw[e];unfold Wc;rw[UZ];simpa using h
def Fl(d:Nat):Prop:=∀(y:aQ)(x:bU)(c w:UN)(v:UV)(s:au),br d y=true->bK c y x->bi y->aq c w->w.ownsRow c.heap.size 5 1 v s.length (VH s)->s.length+(cy y).length<=100000000->
 VB UB 205 #[v,bw x] w (fun e b=>∃f,e=UO f/\b.ownsRow c.heap.size 5 1 f (s++cy y).length (VH (s++cy y))/\aq c b)
def ajZ(y:aQ):au:=match y with| .mk _ b l=>b++dW l
def If(d:Nat):Prop:=∀(y:aQ)(x:bU)(w:UN),br d y=true->bK w y x->bi y->(ajZ y).length<=100000000->VB UB 249 #[bw x] w (BK w (ajZ y))
def yX{l:List aQ}{y:aQ}(h:l[k]?=Ts y):dW (l.take (k+1))=dW (l.take k)++cy y:=by
 rw[aW h];generalize l.take k=m;induction m with
 |nil=>simp[dW]
 |cons z m b=>rw[Vu,dW,dW,b,Ws]
def NE{l:List aQ}(k):(dW (l.take k)).length<=(dW l).length:=by
 induction l generalizing k with
 |nil=>simp
 |cons z m b=>
  cases k with
  |zero=>simp[dW]
  |succ k=>rw[List.take_succ_cons,dW,dW,Uo,Uo];have:=b k;omega
def OT{d}{l:List aQ}(h:nJ d l=true):∀y∈l,br d y=true:=by
 rw[C8,List.all_eq_true]at h;exact h
def L5(d)(ih:Fl d):If (d+1):=by
 intro y x w K hC T G;obtain⟨t,bs,l⟩:=y;rw[bK]at hC;obtain⟨rfl,V,J,Y,I,ab,Z,hlm,M⟩:=hC;rw[bi]at T;obtain⟨hs1,hs2,P⟩:=T;have W:nJ d l=true:=by
  rw[br]at K;simp only[V7]at K;exact K.2.2.2
 obtain⟨t,ba,bl,bc,la,ll,lc⟩:=x;simp only at V J Y I ab Z hlm M⊢;subst V;subst ab;obtain⟨lx,O,ah,ac⟩:=sP M;refine P4 O ac fun HLX HCX=>have al:Hid (aJ w (Tm ba bs.length bc) bs):=Tn ⟨_,_,rfl,J,Y,I⟩;P4 P W fun HS3 HML=>have c:ajZ (.mk t bs l)=bs++dW l:=rfl;have HBD:=Tn c;?_;rw[c]at G;rw[HBD.out];refine P1 l.length fun E m=>P1 bs.length fun BL u=>P4 u m fun HBL HLL=>have HXL:Hid (lx.length=E):=Tn (by rw[<-m,<-O,VR]);?_;rw[u]at al;rw[Uo]at G;refine P1 w.heap.size fun D C=>P1 (w.alloc (Tq #[Ti Tl t,Tm ba BL bc,Tm la E lc] 245)) fun f A=>have B:=Tn (show aq w f by rw[<-A];exact af P0 _);?_;have z1:f.cell? ⟨D,1,U8⟩=Ts (Tm ba BL bc):=by rw[<-A,<-C];simp[go_sem]
 have z2:f.cell? ⟨D,2,U8⟩=Ts (Tm la E lc):=by rw[<-A,<-C];simp[go_sem]
 refine P4 z2 ah fun HZ2 HSL=>?_;unfold bw;simp only;rw[u,m];rw[u]at hs1 J;rw[m]at hs2 Z;go_enter func249,ntmps249;go_upto_region 1 with fail;try rw[A]
 try rw[C]
 go_wp2_with fail;refine(nh bs _ _ (al.ext B) (by rw[HBL.out];omega)).mono ?_;rintro e W1⟨v1,rfl,r,q⟩;refine P4 (World.ownsRow.mono r B.size) (aa B q) fun HO1 s=>have z2:=ae HZ2 q;?_;go_wp2;go_loopw [12,3] (fun j v wr=>∃k:Nat,k<=E/\j=Ti Tl k/\wr.ownsRow w.heap.size 5 1 v (bs++dW (l.take k)).length (VH (bs++dW (l.take k)))/\aq w wr) (fun j _ _=>E-(VS j).toNat)
 case atStart=>exact⟨0,VF _,rfl,by rw[Wk,dW,Ww];exact HO1.out,s⟩
 obtain⟨k,o,rfl,r,g⟩:=hrel;refine P4 r g fun HO ys=>?_;by_cases R:k<E
 .obtain⟨p,hp⟩:=ay HXL R;obtain⟨b,off,rfl,L,N,H⟩:=(HSL.ext ys) k p hp;have z:l[k]?=Ts p.1:=by rw[<-HLX.out,VU,hp];rfl
  refine P5 (yX z) (OT HML p.1 (Uv z)) (qp HS3 p.1 (Uv z)) (HCX p (Uv hp)) fun HPT HPM HPS U=>have ad:=NE (l:=l) (k+1);?_;rw[yX z,Uo]at ad;obtain⟨⟨pt,pba,pbl,pbc,pla,pll,plc⟩,X⟩:∃x,p.2=x:=⟨_,rfl⟩;rw[X]at L N H U;simp only at L N H;have F:Hid ((bs++dW (l.take k)).length+(cy p.1).length<=100000000):=Tn Sq;refine P1 (bs++dW (l.take k)) fun S hS=>have HN2:Hid (bs++dW (l.take (k+1))=S++cy p.1):=Tn (by rw[HPT.out,<-hS,Ws]);?_;rw[hS]at HO F;go_wp2_with fail;refine(ih p.1 ⟨pt,pba,pbl,pbc,pla,pll,plc⟩ w _ _ S HPM U HPS (af ys _) (HO.alloc _) F).mono ?_;rintro e W4⟨v4,rfl,r,Q⟩;refine P4 r Q fun HO4 HE4=>?_;go_wp2;go_roundw
  case rel=>exact⟨k+1,Ph,Pt,by rw[HN2.out];exact HO4.out,HE4⟩
  case measure=>simp[VS];omega
 obtain rfl:k=E:=by omega
 rw[VD (by rw[HLL.out];exact UY _)]at HO;go_wp2;go_ret;exact⟨_,rfl,HO,ys⟩
def jm{p}(h:w.cell? p=Ts x):p.block<w.heap.size:=by
 rcases Nat.lt_or_ge p.block w.heap.size with h1|h1
 .exact h1
 unfold Wc at h;rw[WB h1]at h;cases h
def rD{f row}{s:au}(S:w.grownBy f row)(h:aY w a s)(zs:∀d,a=Ts d->Ts d.block≠row):aY f a s:=fun i x m=>by
 obtain⟨b,off,h1,c⟩:=h i x m;refine⟨b,off,h1,?_⟩;rw[World.grownBy.cell_far S _ (jm c) (zs ⟨b,off,U8⟩ h1)];exact c
def JB{t}(h:cC t=true):∃b:Nat,t=b/\b<128:=by
 unfold cC at h;simp only[WU,beq_iff_eq]at h;rcases h with rfl|rfl|rfl|rfl|rfl
 .exact⟨1,rfl,Pi⟩
 .exact⟨2,rfl,Pi⟩
 .exact⟨4,rfl,Pi⟩
 .exact⟨12,rfl,Pi⟩
 exact⟨48,rfl,Pi⟩
def F5{d t}{b:au}{l:List aQ}(h:br d (.mk t b l)=true):cC t=true:=by
 cases d with
 |zero=>rw[br]at h;cases h
 |succ d=>rw[br]at h;simp only[V7]at h;exact h.1
def CH(o:k<256):((VI k).toNat:Int)=(k:Int):=Pp
def ahY(k:Nat):((VI k).toNat:Int)=(k:Int)%256:=Pm
def CM(d)(am:If d):Fl d:=by
 intro y x J w v s K hC hsm a5 r ab;obtain⟨t,bs,l⟩:=y;obtain⟨R,rfl,htn⟩:=JB (F5 K);have Z:cy (.mk (R:Int) bs l)=VI R::(nE (ajZ (.mk (R:Int) bs l)).length++ajZ (.mk (R:Int) bs l)):=by rw[cy];rfl
 refine P1 (ajZ (.mk (R:Int) bs l)) fun body H=>?_;rw[H]at Z;have al:=Tn Z;rw[Z]at ab;simp only[Up,Uo]at ab;have hxt:x.t=(R:Int):=by rw[bK]at hC;exact hC.1
 obtain⟨xt,xba,xbl,xbc,xla,xll,xlc⟩:=x;simp only at hxt;subst hxt;refine P1 body.length fun z a4=>have T:=fun(W:UN)(g:aq w W)=>am (.mk (R:Int) bs l) ⟨R,xba,xbl,xbc,xla,xll,xlc⟩ W K (bK.ext (aa a5 g) _ hC) hsm (by rw[H,a4];omega);?_;rw[H]at T;have X:=Tn T;refine P1 s.length fun n hn=>?_;rw[hn]at r ab;rw[a4]at ab;refine P5 hn a4 r a5 fun HN u HOWN HE0'=>have hsz0:=a5.size;have hvb:∀k,v.ownBlock=Ts k->k<w.heap.size:=fun k o=>(r.lt k o).2;have HVB:=Tn hvb;?_;obtain⟨i0,hi,S,U,V⟩:=WN lz;refine P1 w.heap.size fun D C=>P1 (w.alloc (Tq #[Ti Tl (R:Int),Tm xba xbl xbc,Tm xla xll xlc] 245)) fun f Y=>have a7:=Tn (show aq w f from QQ);have HSZ:Hid (f.heap.size=D+1):=Tn (by rw[<-Y,Ud,C]);have z0:f.cell? ⟨D,0,U8⟩=Ts (Ti Tl (R:Int)):=Xf;have z1:f.cell? ⟨D,1,U8⟩=Ts (Tm xba xbl xbc):=Xf;have z2:f.cell? ⟨D,2,U8⟩=Ts (Tm xla xll xlc):=Xf;have HZ0:=Tn z0;have E:R<256:=Ph;?_;unfold bw at X⊢;simp only at X⊢;rw[C]at hsz0 HVB;go_enter func205,ntmps205;go_upto_region 1 with fail;try rw[Y]
 try rw[C]
 go_wp2_with fail;refine(X f a7).mono ?_;rintro e W1⟨v1,rfl,a6,q⟩;have HE1:=Tn (aa a7 q);have HW1:Hid (D+1<=W1.heap.size):=Tn (by have:=q.size;rw[HSZ.out]at this;exact this);have y0:=ae HZ0 q;obtain⟨a1,c1,rfl,hc1,hcm1,hb1⟩:=fQ u (by have:=a6;rw[u.out]at this;exact this);have HB1:=Tn hb1
 have HA1:Hid (∀B,a1=Ts B->D<B.block/\B.block<W1.heap.size):=Tn (by
  intro B A;have:=a6.lt B.block (by rw[A];rfl);rw[HSZ.out]at this
  exact⟨Ph,this.2⟩)
 have HO1:=Tn (ee HOWN HE1);go_upto_region 2 with fail;have hw1:=HW1.out;go_upto_region 3 with(at_builtin;(refine wpList_append_lies _ rfl _ _ 37 rfl J.heap.size 5 i0 (Ti Uy 0) 1 1 underlying37 hi S U V rfl Pi _ _ _ rfl (HO1.alloc _) ⟨W1.heap.size,0,U8⟩ 1 1 [Ti Uy (R:Int)] rfl rfl (cQ _ _ _) Pu Pi Pr Ph Q9 _ rfl ?_);(intro g2 cap2 I a0 G hat2 hlt2))
 refine P4 a0 (ZB (af (aa HE0' HE1) _) G (bE HO1)) fun ac F=>?_
 have HB2:Hid (aY I a1 body):=Tn (rD G (HB1.ext (af P0 _)) (fun B A e=>by
  have h1:=HVB.out B.block e.symm;have c:=(HA1 B A).1
  omega))
 have HG2:Hid (∀B,a1=Ts B->g2≠B.block):=Tn (fun B A=>by
  have c:=HA1.out B A;rcases hat2 with h|h
  .have:=HVB.out g2 h;omega
  rw[Ud]at h
  omega)
 have hs2:J.heap.size<=I.heap.size:=F.out.size;by_cases an:z<128
 .have M:Hid (nE body.length=[VI z]):=Tn (by rw[u.out];unfold nE;rw[if_pos an]);go_upto_region 6 with fail;go_upto_region 9 with(at_builtin;(refine wpList_append_lies _ rfl _ _ 37 rfl J.heap.size 5 i0 (Ti Uy 0) 1 1 underlying37 hi S U V rfl Pi _ _ _ rfl (ac.alloc _) ⟨I.heap.size,0,U8⟩ 1 1 [Ti Uy (z:Int)] rfl rfl (cQ _ _ _) Pu Pi Pr Ph Q9 _ rfl ?_);(intro g3 a8 O p b P Q))
  refine P4 p (ZB (af F _) b (bE ac)) fun N Id=>?_
  have L:Hid (aY O a1 body):=Tn (rD b (HB2.ext (af P0 _)) (fun B A=>by
   intro e;have h1:(Ts g2:Option Nat)=Ts B.block:=e.symm
   exact HG2.out B A (Vm h1)))
  have ah:J.heap.size<=O.heap.size:=Id.out.size
  go_wp2_with (
         at_builtin
         refine aX rfl _ _ 37 rfl J.heap.size 5 i0 (Ti Uy 0) 1 1 underlying37 hi S U V rfl Pi _ _ _ rfl N.out a1 z c1 (VH body) rfl SK (aY.news L) (fun e=>Vs) (dM body) Pr Ph ah ?_
         intro v4 W4 m j
         refine P4 m (ZB Id j (bE N)) fun ao a2=>?_
         clear m j)
  go_ret;refine⟨_,rfl,?_,a2⟩;have h4:=ao.out;rw[al.out,M.out];rw[show(s++VI R::([VI z]++body)).length=n+1+1+z from QN];simp only[VH,WK,WI,Ym,CH E,CH (show z<256 from Ph)]at h4⊢;exact Zcm
 by_cases a3:z<256
 .have M:Hid (nE body.length=[129,VI z]):=Tn (by rw[u.out];unfold nE;rw[if_neg an,if_pos a3]);go_upto_region 8 with fail;go_upto_region 9 with(at_builtin;(refine wpList_append_lies _ rfl _ _ 37 rfl J.heap.size 5 i0 (Ti Uy 0) 1 1 underlying37 hi S U V rfl Pi _ _ _ rfl (ac.alloc _) ⟨I.heap.size,0,U8⟩ 2 2 [Ti Uy 129,Ti Uy (z:Int)] rfl rfl (cQ _ _ _) Pu Pi Pr Ph Q9 _ rfl ?_);(intro g3 a8 O p b P Q))
  refine P4 p (ZB (af F _) b (bE ac)) fun N Id=>?_
  have L:Hid (aY O a1 body):=Tn (rD b (HB2.ext (af P0 _)) (fun B A=>by
   intro e;have h1:(Ts g2:Option Nat)=Ts B.block:=e.symm
   exact HG2.out B A (Vm h1)))
  have ah:J.heap.size<=O.heap.size:=Id.out.size
  go_wp2_with (
         at_builtin
         refine aX rfl _ _ 37 rfl J.heap.size 5 i0 (Ti Uy 0) 1 1 underlying37 hi S U V rfl Pi _ _ _ rfl N.out a1 z c1 (VH body) rfl SK (aY.news L) (fun e=>Vs) (dM body) Pr Ph ah ?_
         intro v4 W4 m j
         refine P4 m (ZB Id j (bE N)) fun ao a2=>?_
         clear m j)
  go_ret;refine⟨_,rfl,?_,a2⟩;have h4:=ao.out;rw[al.out,M.out];rw[show(s++VI R::([129,VI z]++body)).length=n+1+2+z from QN];simp only[VH,WK,WI,Ym,CH E,CH a3,show((129:UInt8).toNat:Int)=129 from rfl]at h4⊢;exact Zcm
 have M:Hid (nE body.length=[130,VI (z/256),VI z]):=Tn (by rw[u.out];unfold nE;rw[if_neg an,if_neg a3]);go_upto_region 4 with fail;go_upto_region 9 with(at_builtin;(refine wpList_append_lies _ rfl _ _ 37 rfl J.heap.size 5 i0 (Ti Uy 0) 1 1 underlying37 hi S U V rfl Pi _ _ _ rfl (ac.alloc _) ⟨I.heap.size,0,U8⟩ 3 3 [Ti Uy 130,Ti Uy ((z:Int)/256%256),Ti Uy ((z:Int)%256)] rfl rfl (cQ _ _ _) Pu Pi Pr Ph Q9 _ rfl ?_);(intro g3 a8 O p b P Q))
 refine P4 p (ZB (af F _) b (bE ac)) fun N Id=>?_
 have L:Hid (aY O a1 body):=Tn (rD b (HB2.ext (af P0 _)) (fun B A=>by
  intro e;have h1:(Ts g2:Option Nat)=Ts B.block:=e.symm
  exact HG2.out B A (Vm h1)))
 have ah:J.heap.size<=O.heap.size:=Id.out.size
 go_wp2_with (
        at_builtin
        refine aX rfl _ _ 37 rfl J.heap.size 5 i0 (Ti Uy 0) 1 1 underlying37 hi S U V rfl Pi _ _ _ rfl N.out a1 z c1 (VH body) rfl SK (aY.news L) (fun e=>Vs) (dM body) Pr Ph ah ?_
        intro v4 W4 m j
        refine P4 m (ZB Id j (bE N)) fun ao a2=>?_
        clear m j)
 go_ret;refine⟨_,rfl,?_,a2⟩;have h4:=ao.out;rw[al.out,M.out];rw[show(s++VI R::([130,VI (z/256),VI z]++body)).length=n+1+3+z from QN];simp only[VH,WK,WI,Ym,CH E,ahY,show((130:UInt8).toNat:Int)=130 from rfl]at h4⊢;exact Zcm
def CJ:∀d,Fl d
 |0=>CM 0 fun y _ _ K=>by
  obtain⟨t,b,l⟩:=y;rw[br]at K;cases K
 |d+1=>CM (d+1) (L5 d (CJ d))
def ad3(y:aQ)(w:UN)(e:Xo)(b:UN):Prop:=∃v,e=UO (UW #[v,Ti Tl (pG y)])/\(pG y=0->b.ownsRow w.heap.size 5 1 v (cy y).length (VH (cy y)))/\(pG y≠0->v=zz)/\aq w b
def Iy(y:aQ)(x w)(H:aU w)(E:bK w y x)(z:bi y)(p:(cy y).length<=100000000):VB UB 146 #[bw x] w (ad3 y w):=by
 have m:=fun(W:UN)(g:aq w W)=>nW 8 Pi y x W (H.ext g) (bK.ext g y E) z;have l:=fun(W:UN)(g:aq w W)(K:br 8 y=true)=>CJ 8 y x w W (zz) [] K E z g (WO _ _ _ _) (by rw[VJ,VY];exact p);refine P4 m l fun j b=>?_;obtain⟨t,ba,bl,bc,la,ll,lc⟩:=x;unfold bw at j b⊢;simp only at j b⊢;refine P1 w.heap.size fun D C=>P1 (w.alloc (Tq #[Ti Tl t,Tm ba bl bc,Tm la ll lc] 245)) fun f d=>have B:=Tn (show aq w f from Pq);have z0:f.cell? ⟨D,0,U8⟩=Ts (Ti Tl t):=Pk;have L:f.cell? ⟨D,1,U8⟩=Ts (Tm ba bl bc):=Pk;have M:f.cell? ⟨D,2,U8⟩=Ts (Tm la ll lc):=Pk;P3 z0 L M fun G A J=>?_;go_enter func146,ntmps146;go_upto_region 1 with fail;try rw[d]
 try rw[C]
 go_wp2_with fail;refine P2 (j f B) fun T q=>have s:=Tn (aa B q);have Q:=ae G q;have V:=ae A q;have R:=ae J q;?_;cases K:br 8 y with
 |false=>
  have Z:Hid (pG y=1):=Tn (by unfold pG;rw[if_pos K]);go_wp2;go_ret2
  exact⟨_,Ps,fun h=>absurd (Z.symm.trans h) Pi,fun _=>rfl,s⟩
 |true=>
  have S:=Tn K;have Z:Hid (pG y=if 8192<(cy y).length then 2 else 0):=Tn (by unfold pG;rw[if_neg (by rw[K];decide)]);go_wp2_with fail;refine(b T s S).mono ?_;rintro e I⟨v,rfl,r,o⟩;rw[Vd]at r;refine P1 ((cy y).length) fun N u=>?_;rw[u]at r Z p;refine P3 r o u fun X F P=>?_;obtain⟨a,c,rfl,U,O,_⟩:=fQ u r;by_cases hb:8192<N
  .rw[if_pos hb]at Z;go_wp2;go_ret2
   exact⟨_,Ps,fun h=>absurd (Z.symm.trans h) Pi,fun _=>rfl,F⟩
  rw[if_neg hb]at Z;go_wp2;go_ret2
  exact⟨_,Ps,fun _=>by rw[P.out];exact X.out,fun h=>absurd Z.out h,F⟩
def bx{B:Nat}{y:UV}(l:c.heap[B]?=Ts (Tq #[x,y,z] t (0,0)))(m:w.heap.size<=B)(g:aq w c)(u v q:UV):
  (((c.setCell ⟨B,0,U8⟩ u).setCell ⟨B,1,U8⟩ v).setCell ⟨B,2,U8⟩ q).heap[B]?=Ts (Tq #[u,v,q] t (0,0))/\aq w (((c.setCell ⟨B,0,U8⟩ u).setCell ⟨B,1,U8⟩ v).setCell ⟨B,2,U8⟩ q):=by
 have L:(c.setCell ⟨B,0,U8⟩ u).heap[B]?=Ts (Tq #[u,y,z] t (0,0)):=(VE c B 0 _ _ _ l).trans Pm;have h1:((c.setCell ⟨B,0,U8⟩ u).setCell ⟨B,1,U8⟩ v).heap[B]?=Ts (Tq #[u,v,z] t (0,0)):=(VE _ B 1 _ _ _ L).trans Pm;refine⟨(VE _ B 2 _ _ _ h1).trans Pm,?_⟩;have j:=Uz (S:=fun b=>b=B) c ⟨B,0,U8⟩ u rfl;have f:=Uz (S:=fun b=>b=B) (c.setCell ⟨B,0,U8⟩ u) ⟨B,1,U8⟩ v rfl;have d:=Uz (S:=fun b=>b=B) ((c.setCell ⟨B,0,U8⟩ u).setCell ⟨B,1,U8⟩ v) ⟨B,2,U8⟩ q rfl;exact((Uh (S:=fun _=>False) g).onto ((j.trans f).trans d) (fun i hi h=>Ph)).ext (fun _ _ h=>h)
def ta(b e:Nat):Nat->Prop:=fun k=>b<=k/\k<e
def jg(T:Nat->Prop)(w:UN)(y:aQ)(x:bU):Prop:=∀b:UN,(∀k,T k->b.heap[k]?=w.heap[k]?)->bK b y x
def jg.now{T:Nat->Prop}{y:aQ}{x}(h:jg T w y x):bK w y x:=h w fun _ _=>rfl
def jg.move{T d:Nat->Prop}{y:aQ}{x}(h:jg T w y x)(j:∀k,T k->b.heap[k]?=w.heap[k]?)(f:∀k,T k->d k):jg d b y x:=
 fun g c=>h g fun k o=>(c k (f k o)).trans (j k o)
def Bj{base c}{s:au}(r:w.ownsRow base 5 1 (Tm a n c) n (VH s))(hb:aY w a s)(f:∀k,base<=k->k<w.heap.size->d.heap[k]?=w.heap[k]?):aY d a s:=fun i x m=>by
 obtain⟨b,off,rfl,J⟩:=hb i x m;have:=r.lt b rfl;exact⟨b,off,rfl,(Wj (f b this.1 this.2)).trans J⟩
def II(B:Nat)(y:aQ)(w:UN)(e:Xo)(b:UN):Prop:=∃x,e=UO (bw x)/\jg (ta B b.heap.size) b y x/\aq w b
abbrev gF(y:aQ)(w:UN):Xo->UN->Prop:=II w.heap.size y w
def KS(w:UN)(s c)(T:TypeId)(f):aY (w.drew.alloc (Tq (ZJ s c) T f)) (Ts ⟨w.heap.size,0,U8⟩) s.data.toList:=fun i x m=>by
 refine⟨_,_,rfl,?_⟩;unfold Wc;have hi:=(UU.1 m).1;rw[show(w.drew.alloc (Tq (ZJ s c) T f)).heap[(⟨w.heap.size,0+i,U8⟩:VW).block]?=Ts (Tq (ZJ s c) T f)from UZ w.drew _];simp only[VY];unfold ZJ;rw[Array.getElem?_append_left RM,Array.getElem?_map];rw[show s.data[i]?=Ts x by rw[<-m];simp];rfl
def CU(s:ByteArray)(w:UN)(z:s.size<=1000000):VB UB 149 #[UH s] w (gF (.mk 12 s.data.toList []) w):=by
 have kc:=fun(w:UN)=>run_bytes_of_string (P:=UB) w 9 37 5 s underlying9 underlying37 underlying5;refine P1 w.heap.size fun D u=>P1 (w.alloc (Tq #[Ti Tl 0,zz,zz] 245)) fun f d=>have B:=Tn (show aq w f from Pq);have g:Hid (f.heap[D]?=Ts (Tq #[Ti Tl 0,zz,zz] 245 (0,0))):=Tn (PP d u);have G:w.heap.size<=D:=Ph;have k0:=kc f;P1 (grownCap f s.size 0 5) fun C r=>have J:Hid (s.size<=C):=Tn (by rw[<-r];exact grownCap_ge _ _ _ _);have K:Hid (C<=VL):=Tn (by rw[<-r];exact grownCap_le_maxLen _ _ _ _ Pr);?_;rw[r]at k0;refine P1 (f.drew.alloc (Tq (ZJ s C) 5 ((ZJ s C).size,(ZJ s C).size+1))) fun t T=>have F:Hid (aY t (Ts ⟨f.heap.size,0,U8⟩) s.data.toList):=Tn (by rw[<-T];exact KS _ _ _ _ _);have o:=Tn (show aq f t by rw[<-T];exact aa (ap _) (af P0 _));?_;rw[T]at k0;have M:=(o.block D (UE.1 g).1).trans g;have E:=bx M G (aa B o) (Ti Tl 12) (Tm (Ts ⟨f.heap.size,0,U8⟩) s.size C) (zz);refine PF t D (Ti Tl 12) (Tm (Ts ⟨f.heap.size,0,U8⟩) s.size C) (zz) fun I Y=>?_;rw[Y]at E;refine P4 E Y fun j l=>PK M fun O am N=>PL M fun L g1 g2=>have H:Hid (D<f.heap.size):=Tn (UE.1 g).1;have p:s.data.toList.length=s.size:=Pm;have q:=Tn p;?_;clear kc r T M E Y p;go_enter func149,ntmps149;go_upto_region 1 with fail;try rw[d]
 try rw[u]
 clear d u;go_wp2_with fail;rw[l.out];refine PK j.1 fun q0 q1 q2=>VC (v:=UT #[Ti Tl 12,Tm (Ts ⟨f.heap.size,0,U8⟩) s.size C,zz]) (by simp[Vo,results149,go_sem,q0,q1,q2]) rfl ⟨⟨12,Ts ⟨f.heap.size,0,U8⟩,s.size,C,U8,0,0⟩,rfl,?_,j.2⟩;intro Q A;rw[bK];refine⟨rfl,q.symm,by rw[q.out];exact J.out,K,?_,rfl,UY _,VF _,SF⟩;intro i x m;obtain⟨b,off,h1,c⟩:=F.out i x m;cases h1;refine⟨_,_,rfl,?_⟩;have R:=jm c;have y:I.heap.size=t.heap.size:=by rw[<-l.out];simp[XY]
 rw[Wj (A _ ⟨B.size,by rw[y];exact R⟩),<-l.out];have zs:D≠f.heap.size:=Nat.ne_of_lt H;rw[XX _ _ _ _ zs,XX _ _ _ _ zs,XX _ _ _ _ zs];exact c
def bh(l:List (aQ×bU)):List UV:=l.flatMap fun p=>[Ti Tl p.2.t,Tm p.2.ba p.2.bl p.2.bc,Tm p.2.la p.2.ll p.2.lc]
def nB(l:List (aQ×bU)):(bh l).length=l.length*3:=by exact dN (m:=3) (f:=fun p:aQ×bU=>([Ti Tl p.2.t,Tm p.2.ba p.2.bl p.2.bc,Tm p.2.la p.2.ll p.2.lc]:List UV)) (fun _=>rfl) l
def A7(l:List (aQ×bU)):∀u∈bh l,u.oneCell'=true:=fun u X=>by
 unfold bh at X;obtain⟨p,_,x⟩:=List.mem_flatMap.1 X;simp only[PD]at x;rcases x with rfl|rfl|rfl<;>rfl
def AE{l:List (aQ×bU)}(h:(bh l)[j]?=Ts u):∃p,l[j/3]?=Ts p/\((j%3=0/\u=Ti Tl p.2.t)\/(j%3=1/\u=Tm p.2.ba p.2.bl p.2.bc)\/(j%3=2/\u=Tm p.2.la p.2.ll p.2.lc)):=by
 induction l generalizing j with
 |nil=>simp[bh]at h
 |cons p l b=>
  have e:bh (p::l)=[Ti Tl p.2.t,Tm p.2.ba p.2.bl p.2.bc,Tm p.2.la p.2.ll p.2.lc]++bh l:=rfl;rw[e]at h;match j,h with
  |0,h=>cases h;exact⟨p,rfl,.inl ⟨rfl,rfl⟩⟩
  |1,h=>cases h;exact⟨p,rfl,.inr (.inl ⟨rfl,rfl⟩)⟩
  |2,h=>cases h;exact⟨p,rfl,.inr (.inr ⟨rfl,rfl⟩)⟩
  |j+3,h=>
   rw[List.getElem?_append_right Pm]at h;obtain⟨q,h1,c⟩:=b (j:=j) h;refine⟨q,?_,?_⟩
   .rw[show(j+3)/3=j/3+1 from Ph,YO];exact h1
   rw[show(j+3)%3=j%3 from Ph];exact c
def Mw{l:List (aQ×bU)}(h:cr 3 fW w a l):∀d,a=Ts d->∀(j:Nat)(u:UV),(bh l)[j]?=Ts u->w.cell? (d.add j)=Ts u:=fun d o j u X=>by
 obtain⟨p,h1,c⟩:=AE X;obtain⟨b,off,hb,k0,g,f⟩:=h _ p h1;rw[o]at hb;cases hb;have e:((⟨b,off,U8⟩:VW).add j)=⟨b,off+j,U8⟩:=by simp[ZL]
 rw[e];rcases c with⟨m,rfl⟩|⟨m,rfl⟩|⟨m,rfl⟩
 .rw[show off+j=off+j/3*3 from Ph];exact k0
 .rw[show off+j=off+j/3*3+1 from Ph];exact g
 rw[show off+j=off+j/3*3+2 from Ph];exact f
def rK{base}{l:List (aQ×bU)}(hn:l.length=n)(h:w.ownsRow base 245 3 v n (bh l)):∃a c,v=Tm a n c/\n<=c/\c<=VL/\cr 3 fW w a l:=by
 obtain⟨a,c,h1,d,A,f⟩:=kZ (m:=3) (R:=fW) (cells:=fun p:aQ×bU=>[Ti Tl p.2.t,Tm p.2.ba p.2.bl p.2.bc,Tm p.2.la p.2.ll p.2.lc]) (fun _=>rfl) (fun b o x g J=>⟨QR,J 1 _ rfl,J 2 _ rfl⟩) hn h;rw[hn]at h1 d;exact⟨a,c,h1,d,A,f⟩
def uG:(UB.info? 245).map (fun i=>(i.zero,i.size,i.bytes))=Ts (Ts (UT #[Ti Tl 0,zz,zz]),3,56):=Pg
def vB(l:List (aQ×bU))(a n c w)(hn:l.length=n)(C:n<=c)(p:n<=1000000)(h:cr 3 fW w a l):
  VB UB 206 #[Tm a n c] w (fun e y=>∃v,e=UO v/\y.ownsRow w.heap.size 245 3 v n (bh l)/\aq w y):=by
 obtain⟨i0,hi,j,f,g⟩:=WN uG;refine P4 h hn fun H A=>have q:∀(w:UN)(a:Option VW)(n c t u:Nat),(binOp .eql 243 (Tm a n c) (Tm U8 t u)).run UB w= .ok (U1 a.isNone) w:=fun w a n c t u=>Lib.run_eql_slice_nil w _ _ a n c t u underlying243;?_;cases a with
 |none=>
  have L:n=0:=by
   rcases Nat.eq_zero_or_pos n with L|L
   .exact L
   obtain⟨x,m⟩:=ay hn L;obtain⟨b,off,hb,_⟩:=H.out 0 x m;cases hb
  subst L;obtain rfl:l=[]:=VA hn;go_enter func206,ntmps206;exact U5
 |some D=>
  go_enter func206,ntmps206
  go_wp2_with (
         at_builtin
         refine aX rfl _ _ 243 rfl w.heap.size 245 i0 _ 3 56 underlying243 hi j f g rfl Pi _ _ _ rfl (World.ownsRow_made w #[] 0 (UY _) (VF _) rfl) (Ts D) n c (bh l) rfl (by rw[nB,A.out]) (Mw (H.ext (af P0 _))) (fun e=>RH) (A7 l) Pr Ph Pm ?_
         intro F z r d
         refine P4 r (ZB (af P0 _) d (fun k o=>by have B:Ts w.heap.size=Ts k:=o;cases B;exact UY _)) fun E s=>?_
         clear r d)
  go_ret;refine⟨_,rfl,?_,s⟩;have:=E.out;rw[VY,Vd]at this;exact this
def Iq{base c}{l:List (aQ×bU)}(r:w.ownsRow base 245 3 (Tm a n c) n (bh l))(hb:cr 3 fW w a l)(j:∀k,base<=k->k<w.heap.size->d.heap[k]?=w.heap[k]?):cr 3 fW d a l:=fun i x m=>by
 obtain⟨b,off,rfl,k0,g,f⟩:=hb i x m;have:=r.lt b rfl;have e:=j b this.1 this.2;exact⟨b,off,rfl,(Wj e).trans k0,(Wj e).trans g,(Wj e).trans f⟩
def nf(l:List (aQ×bU))(a n c w)(hn:l.length=n)(P:n<=c)(hl:n<=1000000)(h:cr 3 fW w a l)(B)(hB:B<=w.heap.size)(J:∀p∈l,jg (ta B w.heap.size) w p.1 p.2):
  VB UB 147 #[Tm a n c] w (II B (.mk 48 [] (l.map (·.1))) w):=by
 refine P4 J hn fun HC G=>P1 w.heap.size fun D C=>P1 (w.alloc (Tq #[Ti Tl 0,zz,zz] 245)) fun f d=>have g:=Tn (show aq w f from Pq);have m:Hid (f.heap[D]?=Ts (Tq #[Ti Tl 0,zz,zz] 245 (0,0))):=Tn (PP d C);have R:w.heap.size<=D:=Ph;have H:=Tn (h.ext g);?_;go_enter func147,ntmps147;go_upto_region 1 with fail;try rw[d]
 try rw[C]
 clear d C;go_wp2_with fail;refine(vB l a n c f G P hl H).mono ?_;rintro e t⟨v1,rfl,r,q⟩;obtain⟨a1,c1,rfl,S,N,F⟩:=rK G r;have u:∀K,a1=Ts K->D≠K.block:=fun K U=>by
  have h1:=r.lt K.block (by rw[U];rfl);have h2:=(UE.1 m).1;omega
 have M:=(q.block D (UE.1 m).1).trans m;have E:=bx M R (aa g q) (Ti Tl 48) (zz) (Tm a1 n c1);refine PF t D (Ti Tl 48) (zz) (Tm a1 n c1) fun I Y=>?_;rw[Y]at E;refine P9 E Y F u r q fun j y T W A s=>PK M fun e0 am e2=>PL M fun g0 g1 g2=>?_;clear u Y;go_wp2_with fail;rw[y.out];refine PK j.1 fun q0 q1 q2=>VC (v:=UT #[Ti Tl 48,zz,Tm a1 n c1]) (by simp[Vo,results147,go_sem,q0,q1,q2]) rfl ⟨⟨48,U8,0,0,a1,n,c1⟩,rfl,?_,j.2⟩;intro X z;have Z:I.heap.size=t.heap.size:=by rw[<-y.out];simp[XY]
 have hsz:=g.out.size;have V:=s.out.size;have b:∀k,D≠k->I.heap[k]?=t.heap[k]? :=fun k o=>by
  rw[<-y.out,Below.heap_setCell _ _ _ _ (fun e=>o e.symm),Below.heap_setCell _ _ _ _ (fun e=>o e.symm),Below.heap_setCell _ _ _ _ (fun e=>o e.symm)]
 have Q:cr 3 fW X a1 l:=Iq A T fun k h1 h2=>by
  rw[z k ⟨Ph,Ph⟩];exact b k (by have:=(UE.1 m).1;omega)
 rw[bK];refine⟨rfl,rfl,UY _,VF _,aY.nil _ _,by rw[VR];exact G.out.symm,by rw[VR,G.out];exact S,N,xf Q fun p x=>?_⟩;refine(HC p x) X fun k o=>have L:k<w.heap.size:=o.2;have O:B<=k:=o.1;?_;rw[z k ⟨O,Ph⟩,b k Ph,s.out.block k Ph,g.out.block k L]
def ah5:Bool->UInt8
 |true=>255
 |false=>0
def MW(v)(w:UN):VB UB 152 #[U1 v] w (gF (.mk 1 [ah5 v] []) w):=by
 refine P1 w.heap.size fun D C=>P1 (w.alloc (Tq #[Ti Tl 0,zz,zz] 245)) fun f d=>have B:=Tn (show aq w f from Pq);have l:Hid (f.heap[D]?=Ts (Tq #[Ti Tl 0,zz,zz] 245 (0,0))):=Tn (PP d C);have y:w.heap.size<=D:=Ph;?_;cases v with
 |false=>
  go_enter func152,ntmps152;go_upto_region 1 with fail;try rw[d]
  try rw[C]
  clear d C;go_upto_region 4 with fail;exact P1 (f.alloc (Tq #[Ti Uy 0] 5)) fun t T=>have q:Hid (aJ t (Tm (Ts ⟨f.heap.size,0,U8⟩) 1 1) [VI 0]):=Tn (by rw[<-T];exact afI f 0 Pi _);SO
 |true=>
  go_enter func152,ntmps152;go_upto_region 1 with fail;try rw[d]
  try rw[C]
  clear d C;go_upto_region 4 with fail;exact P1 (f.alloc (Tq #[Ti Uy 255] 5)) fun t T=>have q:Hid (aJ t (Tm (Ts ⟨f.heap.size,0,U8⟩) 1 1) [VI 255]):=Tn (by rw[<-T];exact afI f 255 Pi _);SO
def lG(s:au):UV:=match gU s with
 | .error e=>UW #[Ti Tl 0,Ti Tl 0,Ti Tl e]
 | .ok (n,l)=>UW #[Ti Tl (n:Int),Ti Tl (l:Int),Ti Tl 0]
def Ea(t:au)(k)(o:k<=2):(t.take k).foldl (fun n x=>n*256+x.toNat) 0<65536:=by
 match t,k,o with
 |[],k,_=>simp
 |[a],0,_=>simp
 |[a],k+1,_=>have:=a.toNat_lt;simp;omega
 |a::b::t,0,_=>simp
 |a::b::t,1,_=>have:=a.toNat_lt;simp;omega
 |a::b::t,2,_=>have:=a.toNat_lt;have:=b.toNat_lt;simp;omega
def afQ{f:UInt8}{t:au}(h:f.toNat<128):lG (f::t)=UW #[Ti Tl (f.toNat:Int),Ti Tl 1,Ti Tl 0]:=by
 have e:gU (f::t)= .ok (f.toNat,1):=by rw[gU,if_pos XW]
 unfold lG;rw[e];rfl
def sQ{f:UInt8}{t:au}(h:¬f.toNat<128):gU (f::t)=if f≠129/\f≠130 then .error 71 else if t.length<f.toNat-128 then .error 70 else
  if(t.take (f.toNat-128)).foldl (fun n x=>n*256+x.toNat) 0<128\/(f=130/\(t.take (f.toNat-128)).foldl (fun n x=>n*256+x.toNat) 0<256)then .error 71 else .ok ((t.take (f.toNat-128)).foldl (fun n x=>n*256+x.toNat) 0,f.toNat-127):=by
 rw[gU,if_neg XW]
def aeP{f:UInt8}(o:k<256)(h:f.toNat≠k):f≠VI k:=fun e=>h (by rw[e];simp;omega)
def MH{f:UInt8}{t:au}(h:¬f.toNat<128)(c:¬(f.toNat=129\/f.toNat=130)):lG (f::t)=UW #[Ti Tl 0,Ti Tl 0,Ti Tl 71]:=by
 have A:f≠129:=aeP (k:=129) Pi Ph;have b:f≠130:=aeP (k:=130) Pi Ph;have e:gU (f::t)= .error 71:=by rw[sQ h,if_pos ⟨A,b⟩]
 unfold lG;rw[e]
def Cr{f:UInt8}(o:k<256)(h:f.toNat=k):f=VI k:=UInt8.toNat_inj.1 (by rw[h];simp;omega)
def FY{f:UInt8}{t:au}(c:f.toNat=129\/f.toNat=130)(A:t.length<f.toNat-128):lG (f::t)=UW #[Ti Tl 0,Ti Tl 0,Ti Tl 70]:=by
 have hn:¬(f≠129/\f≠130):=fun J=>by
  rcases c with h|h
  .exact J.1 (Cr (k:=129) Pi h)
  exact J.2 (Cr (k:=130) Pi h)
 have e:gU (f::t)= .error 70:=by rw[sQ Ph,if_neg hn,if_pos A]
 unfold lG;rw[e]
def Ca{f:UInt8}{t:au}{M}(cf:f.toNat=128+M)(h1:1<=M)(c:M<=2)(l:M<=t.length)(hn:n=(t.take M).foldl (fun n x=>n*256+x.toNat) 0):
  lG (f::t)=if n<128\/(M=2/\n<256)then UW #[Ti Tl 0,Ti Tl 0,Ti Tl 71]else UW #[Ti Tl (n:Int),Ti Tl ((M+1:Nat):Int),Ti Tl 0]:=by
 have g:¬(f≠129/\f≠130):=fun J=>by
  obtain rfl|rfl:M=1\/M=2:=Ph
  .exact J.1 (Cr (k:=129) Pi cf)
  exact J.2 (Cr (k:=130) Pi cf)
 have K:f.toNat-128=M:=Ph;have d:f.toNat-127=M+1:=Ph;have b:(f=130)↔M=2:=by
  constructor
  .intro h;rw[h]at cf;have:(130:UInt8).toNat=130:=rfl;omega
  intro h;exact Cr (k:=130) Pi Ph
 have e:=sQ (f:=f) (t:=t) Ph;rw[if_neg g,K,if_neg Ph,<-hn,d]at e;have j:(n<128\/(f=130/\n<256))↔(n<128\/(M=2/\n<256)):=by rw[b]
 unfold lG;by_cases J:n<128\/(M=2/\n<256)
 .rw[if_pos (j.2 J)]at e;rw[e,if_pos J]
 rw[if_neg (fun h=>J (j.1 h))]at e;rw[e,if_neg J]
def CZ(a b:Nat)(d:a<4611686018427387904)(hb:b<4611686018427387904):bits .or Tl (a:Int) (b:Int)=((a|||b:Nat):Int):=by
 have m:a|||b<2^62:=Nat.or_lt_two_pow Ph Ph;have h1:(BitVec.ofInt 64 (a:Int)).toNat=a:=by
  exact UM
 have c:(BitVec.ofInt 64 (b:Int)).toNat=b:=by
  exact UM
 show Tl.wrap ((BitVec.ofInt 64 (a:Int)|||BitVec.ofInt 64 (b:Int)).toNat:Int)=_
 rw[BitVec.toNat_or,h1,c,IntKind.wrap_i64];omega
def aiC{x:Nat}(hn:n<65536)(m:x<256):bits .or Tl ((n:Int)*256) (x:Int)=((n*256+x:Nat):Int):=by
 have h:=CZ (n*256) x Ph Ph;exact U6
def qi(s:au)(v w)(z:aJ w v s)(p:s.length<=1000000000):VB UB 250 #[v] w (bM (lG s) w):=by
 obtain⟨a,c,rfl,h1,h2,A⟩:=z;cases s with
 |nil=>
  exact Tp
 |cons f t=>
  obtain⟨b,off,rfl,y⟩:=A 0 f rfl;rw[YF]at y;refine P1 t.length fun T V=>?_;simp only[Up]at h1 p⊢;rw[V]at h1 p⊢;refine P3 V A y fun L W Y=>have cf:=f.toNat_lt;?_;clear A V;by_cases B:f.toNat<128
  .have Z:Hid (lG (f::t)=UW #[Ti Tl (f.toNat:Int),Ti Tl 1,Ti Tl 0]):=Tn (afQ B);rw[Z.out];refine P1 f.toNat fun F P=>?_;rw[P]at y B cf⊢;clear P;go_enter func250,ntmps250;go_wp2_with fail;exact VC (v:=UW #[Ti Tl (F:Int),Ti Tl 1,Ti Tl 0]) Q4 rfl ⟨rfl,P0⟩
  by_cases D:f.toNat=129\/f.toNat=130
  .obtain⟨M,I,ab,ac⟩:∃M:Nat,f.toNat=128+M/\1<=M/\M<=2:=⟨f.toNat-128,Ph,Ph,Ph⟩;rw[I]at y;by_cases ad:T<M
   .have Z:Hid (lG (f::t)=UW #[Ti Tl 0,Ti Tl 0,Ti Tl 70]):=Tn (FY D (by rw[L.out];omega));rw[Z.out];have t1:(((128+M:Nat):Int) !=129&&((128+M:Nat):Int) !=130)=false:=by
     obtain rfl|rfl:M=1\/M=2:=Ph
     .decide
     decide
    obtain rfl|rfl:M=1\/M=2:=Ph
    .exact Tp
    exact Tp
   obtain rfl|rfl:M=1\/M=2:=by omega
   .have u:1<=T:=by omega
    go_enter func250,ntmps250;go_wp2_with fail;go_loopw [38,2] (fun j O wr=>∃k n:Nat,k<=1/\j=Ti Tl k/\O=Ti Tl n/\n=(t.take k).foldl (fun n x=>n*256+x.toNat) 0/\aq w wr) (fun j _ _=>1-(VS j).toNat)
    case atStart=>exact⟨0,0,Ph,rfl,rfl,rfl,P0⟩
    obtain⟨k,n,o,rfl,rfl,hn,g⟩:=hrel;refine P4 hn g fun K ys=>?_;have C:n<65536:=by rw[hn];exact Ea t k Ph
    clear hn g;by_cases R:k<1
    .obtain⟨x,m⟩:=ay (l:=f::t) (k:=k+1) rfl YR;obtain⟨b',N,hb,J⟩:=(W.ext ys) (k+1) x m;cases hb;rw[show off+(k+1)=off+1+k from Ph]at J;have q:=x.toNat_lt;have r:t[k]?=Ts x:=by rw[YO]at m;exact m
     have H:=Tn (eO (f:=fun(n:Nat)(x:UInt8)=>n*256+x.toNat) r 0);refine P1 x.toNat fun X E=>?_;rw[E]at J q;refine P4 E (aiC C q) fun U G=>?_;clear m r E;go_wp2_with fail;go_roundw
     case rel=>exact⟨k+1,n*256+X,Ph,Pt,by rw[G.out],by rw[H.out,<-K.out,U.out],ys⟩
     case measure=>simp[VS];omega
    obtain rfl:k=1:=by omega
    have Z:=Tn (Ca (f:=f) (t:=t) (M:=1) (n:=n) I Ph Ph (by rw[L.out];exact u) K);by_cases Q:n<128
    .have S:decide (n<128)=true:=by simp[Q]
     exact TK
    have S:decide (n<128)=false:=by simp;omega
    have d:Hid (lG (f::t)=UW #[Ti Tl (n:Int),Ti Tl 2,Ti Tl 0]):=Tn (Z.trans (if_neg Ph));go_wp2_with fail;exact VC (v:=UW #[Ti Tl (n:Int),Ti Tl 2,Ti Tl 0]) Q4 rfl ⟨Zax,ys⟩
   have u:2<=T:=by omega
   go_enter func250,ntmps250;go_wp2_with fail;go_loopw [38,2] (fun j O wr=>∃k n:Nat,k<=2/\j=Ti Tl k/\O=Ti Tl n/\n=(t.take k).foldl (fun n x=>n*256+x.toNat) 0/\aq w wr) (fun j _ _=>2-(VS j).toNat)
   case atStart=>exact⟨0,0,Ph,rfl,rfl,rfl,P0⟩
   obtain⟨k,n,o,rfl,rfl,hn,g⟩:=hrel;refine P4 hn g fun K ys=>?_;have C:n<65536:=by rw[hn];exact Ea t k Ph
   clear hn g;by_cases R:k<2
   .obtain⟨x,m⟩:=ay (l:=f::t) (k:=k+1) rfl YR;obtain⟨b',N,hb,J⟩:=(W.ext ys) (k+1) x m;cases hb;rw[show off+(k+1)=off+1+k from Ph]at J;have q:=x.toNat_lt;have r:t[k]?=Ts x:=by rw[YO]at m;exact m
    have H:=Tn (eO (f:=fun(n:Nat)(x:UInt8)=>n*256+x.toNat) r 0);refine P1 x.toNat fun X E=>?_;rw[E]at J q;refine P4 E (aiC C q) fun U G=>?_;clear m r E;go_wp2_with fail;go_roundw
    case rel=>exact⟨k+1,n*256+X,Ph,Pt,by rw[G.out],by rw[H.out,<-K.out,U.out],ys⟩
    case measure=>simp[VS];omega
   obtain rfl:k=2:=by omega
   have Z:=Tn (Ca (f:=f) (t:=t) (M:=2) (n:=n) I Ph Ph (by rw[L.out];exact u) K);by_cases Q:n<128
   .have S:decide (n<128)=true:=by simp[Q]
    exact TK
   have S:decide (n<128)=false:=by simp;omega
   by_cases x2:n<256
   .have d2:decide (n<256)=true:=by simp[x2]
    exact TK
   have d2:decide (n<256)=false:=by simp;omega
   have d:Hid (lG (f::t)=UW #[Ti Tl (n:Int),Ti Tl 3,Ti Tl 0]):=Tn (Z.trans (if_neg Ph));go_wp2_with fail;exact VC (v:=UW #[Ti Tl (n:Int),Ti Tl 3,Ti Tl 0]) Q4 rfl ⟨Zax,ys⟩
  have Z:Hid (lG (f::t)=UW #[Ti Tl 0,Ti Tl 0,Ti Tl 71]):=Tn (MH B D);rw[Z.out];refine P1 f.toNat fun F P=>?_;rw[P]at y B D cf;have t1:((F:Int) !=129)=true:=Pp;have t2:((F:Int) !=130)=true:=Pp;clear P;go_enter func250,ntmps250;go_wp2_with fail;exact VC (v:=UW #[Ti Tl 0,Ti Tl 0,Ti Tl 71]) Q4 rfl ⟨rfl,P0⟩
def nU(z:UV)(R:UV->UN->Prop)(y:aQ)(t tag:Int)(w:UN)(e:Xo)(b:UN):Prop:=
 ∃(u:UV)(k:Int),e=UO (UW #[u,Ti Tl k])/\aq w b/\((t≠tag/\k=72/\u=z)\/(t=tag/\br 8 y=false/\k=71/\u=z)\/(t=tag/\br 8 y=true/\R u b/\k=0))
def Jh(y:aQ)(x tag F)(R:UV->UN->Prop)(w)(H:aU w)(N:bK w y x)(z:bi y)(T:∀args w,(Wu F args).run UB w= .ok (.enter F args) w)(cf:x.t=tag->br 8 y=true->∀W,aq w W->VB UB F #[bw x] W (fun e b=>∃u,e=UO u/\R u b/\aq W b)):
  VB UB 257 #[bw x,Ti Tl tag,.func (.func F) #[] #[]] w (nU (Ti Tl 0) R y x.t tag w):=by
 have j:=fun(W:UN)(g:aq w W)=>nW 8 Pi y x W (H.ext g) (bK.ext g y N) z;refine P4 j cf fun c J=>?_;obtain⟨t,ba,bl,bc,la,ll,lc⟩:=x;unfold bw at c J⊢;simp only at c J⊢;refine P1 w.heap.size fun D C=>P1 (w.alloc (Tq #[Ti Tl t,Tm ba bl bc,Tm la ll lc] 245)) fun f d=>have B:=Tn (show aq w f from Pq);have z0:f.cell? ⟨D,0,U8⟩=Ts (Ti Tl t):=Pk;have M:f.cell? ⟨D,1,U8⟩=Ts (Tm ba bl bc):=Pk;have O:f.cell? ⟨D,2,U8⟩=Ts (Tm la ll lc):=Pk;P3 z0 M O fun E r G=>?_;go_enter func257,ntmps257;exact SM
def Gc(y:aQ)(x tag F)(R:UV->UN->Prop)(w)(H:aU w)(N:bK w y x)(z:bi y)(T:∀args w,(Wu F args).run UB w= .ok (.enter F args) w)(cf:x.t=tag->br 8 y=true->∀W,aq w W->VB UB F #[bw x] W (fun e b=>∃u,e=UO u/\R u b/\aq W b)):
  VB UB 253 #[bw x,Ti Tl tag,.func (.func F) #[] #[]] w (nU (UH ⟨#[]⟩) R y x.t tag w):=by
 have j:=fun(W:UN)(g:aq w W)=>nW 8 Pi y x W (H.ext g) (bK.ext g y N) z;refine P4 j cf fun c J=>?_;obtain⟨t,ba,bl,bc,la,ll,lc⟩:=x;unfold bw at c J⊢;simp only at c J⊢;refine P1 w.heap.size fun D C=>P1 (w.alloc (Tq #[Ti Tl t,Tm ba bl bc,Tm la ll lc] 245)) fun f d=>have B:=Tn (show aq w f from Pq);have z0:f.cell? ⟨D,0,U8⟩=Ts (Ti Tl t):=Pk;have M:f.cell? ⟨D,1,U8⟩=Ts (Tm ba bl bc):=Pk;have O:f.cell? ⟨D,2,U8⟩=Ts (Tm la ll lc):=Pk;P3 z0 M O fun E r G=>?_;go_enter func253,ntmps253;exact SM
def Hk(y:aQ)(x tag F)(R:UV->UN->Prop)(w)(H:aU w)(N:bK w y x)(z:bi y)(T:∀args w,(Wu F args).run UB w= .ok (.enter F args) w)(cf:x.t=tag->br 8 y=true->∀W,aq w W->VB UB F #[bw x] W (fun e b=>∃u,e=UO u/\R u b/\aq W b)):
  VB UB 255 #[bw x,Ti Tl tag,.func (.func F) #[] #[]] w (nU (U1 false) R y x.t tag w):=by
 have j:=fun(W:UN)(g:aq w W)=>nW 8 Pi y x W (H.ext g) (bK.ext g y N) z;refine P4 j cf fun c J=>?_;obtain⟨t,ba,bl,bc,la,ll,lc⟩:=x;unfold bw at c J⊢;simp only at c J⊢;refine P1 w.heap.size fun D C=>P1 (w.alloc (Tq #[Ti Tl t,Tm ba bl bc,Tm la ll lc] 245)) fun f d=>have B:=Tn (show aq w f from Pq);have z0:f.cell? ⟨D,0,U8⟩=Ts (Ti Tl t):=Pk;have M:f.cell? ⟨D,1,U8⟩=Ts (Tm ba bl bc):=Pk;have O:f.cell? ⟨D,2,U8⟩=Ts (Tm la ll lc):=Pk;P3 z0 M O fun E r G=>?_;go_enter func255,ntmps255;exact SM
def Jp(y:aQ)(x tag F)(R:UV->UN->Prop)(w)(H:aU w)(N:bK w y x)(z:bi y)(T:∀args w,(Wu F args).run UB w= .ok (.enter F args) w)(cf:x.t=tag->br 8 y=true->∀W,aq w W->VB UB F #[bw x] W (fun e b=>∃u,e=UO u/\R u b/\aq W b)):
  VB UB 251 #[bw x,Ti Tl tag,.func (.func F) #[] #[]] w (nU (zz) R y x.t tag w):=by
 have j:=fun(W:UN)(g:aq w W)=>nW 8 Pi y x W (H.ext g) (bK.ext g y N) z;refine P4 j cf fun c J=>?_;obtain⟨t,ba,bl,bc,la,ll,lc⟩:=x;unfold bw at c J⊢;simp only at c J⊢;refine P1 w.heap.size fun D C=>P1 (w.alloc (Tq #[Ti Tl t,Tm ba bl bc,Tm la ll lc] 245)) fun f d=>have B:=Tn (show aq w f from Pq);have z0:f.cell? ⟨D,0,U8⟩=Ts (Ti Tl t):=Pk;have M:f.cell? ⟨D,1,U8⟩=Ts (Tm ba bl bc):=Pk;have O:f.cell? ⟨D,2,U8⟩=Ts (Tm la ll lc):=Pk;P3 z0 M O fun E r G=>?_;go_enter func251,ntmps251;exact SM
def aL(s:au):ByteArray:=⟨s.toArray⟩
def OQ{c}{s:au}(hn:s.length=n)(h:aY w a s):(convert 37 9 (Tm a n c)).run UB w= .ok (UH (aL s)) w:=by
 cases a with
 |none=>
  have L:=eh h;obtain rfl:s=[]:=VA L;subst hn;exact run_convert_bytes_zero (P:=UB) w 37 5 underlying37 underlying5 U8 c 9 underlying9
 |some b=>
  subst hn
  exact run_convert_bytes_back (P:=UB) w 37 9 5 b c s underlying37 underlying5 underlying9 (fun j Q=>by
   have:=aY.news h b rfl j (Ti Uy (s[j].toNat:Int)) (by unfold VH;rw[VU,V8 Q];rfl)
   exact this)
def Kw(t)(b:au)(l:List aQ)(x w)(r:bK w (.mk t b l) x)(s:bi (.mk t b l))(y:t=12)(z:br 8 (.mk t b l)=true):VB UB 254 #[bw x] w (fun e A=>∃u,e=UO u/\(u=UH (aL b))/\aq w A):=by
 rw[bK]at r;obtain⟨rfl,d,o,g,f,j,q,m,p⟩:=r;obtain⟨t,ba,bl,bc,la,ll,lc⟩:=x;simp only at d o g f j q m p⊢;have kc:=OQ (w:=w.alloc (Tq #[Ti Tl t,Tm ba bl bc,Tm la ll lc] 245)) (c:=bc) d.symm (f.ext (af P0 _));unfold bw;simp only;clear d o g f j q m p;go_enter func254,ntmps254;go_wp2;go_ret;exact⟨_,rfl,rfl,af P0 _⟩
def JK(t)(b:au)(l:List aQ)(x w)(G:bK w (.mk t b l) x)(L:bi (.mk t b l))(H:t=1)(K:br 8 (.mk t b l)=true):VB UB 256 #[bw x] w (fun e J=>∃u,e=UO u/\(u=U1 (b !=[0]))/\aq w J):=by
 rw[bK]at G;obtain⟨rfl,r,m,F,j,s,A,z,y⟩:=G;obtain⟨t,ba,bl,bc,la,ll,lc⟩:=x;simp only at r m F j s A z y H K⊢;subst H;have hb:b=[0]\/b=[255]:=by
  rw[br]at K;simp only[V7]at K;have:=K.2.1;unfold jp at this;rw[if_pos rfl]at this;simpa using this
 clear K;unfold bw;simp only;rcases hb with rfl|rfl
 .obtain⟨g,o,rfl,p⟩:=j 0 0 rfl;have c:w.cell? ⟨g,o+0,U8⟩=Ts (Ti Uy 0):=p;exact TB
 obtain⟨g,o,rfl,p⟩:=j 0 255 rfl;have c:w.cell? ⟨g,o+0,U8⟩=Ts (Ti Uy 255):=p;exact TB
def aaN:∀args w,(Wu 254 args).run UB w= .ok (.enter 254 args) w:=Vv func254 Pg rfl
def Gv(t)(b:au)(l:List aQ)(x w)(H:aU w)(m:bK w (.mk t b l) x)(z:bi (.mk t b l)):VB UB 214 #[bw x] w (nU (UH ⟨#[]⟩) (fun u _=>u=UH (aL b)) (.mk t b l) t 12 w):=by
 have j:x.t=t:=Zag;have o:=fun(W:UN)(g:aq w W)=>Gc (.mk t b l) x 12 254 (fun u _=>u=UH (aL b)) W (H.ext g) (bK.ext g _ m) z aaN (fun E K F p=>Kw t b l x F (bK.ext (aa g p) _ m) z (j.symm.trans E) K);have c:=Tn o;obtain⟨t,ba,bl,bc,la,ll,lc⟩:=x;simp only at j;subst j;unfold bw at c⊢;simp only at c⊢;refine P1 w.heap.size fun D C=>P1 (w.alloc (Tq #[Ti Tl t,Tm ba bl bc,Tm la ll lc] 245)) fun f d=>have B:=Tn (show aq w f from Pq);have z0:f.cell? ⟨D,0,U8⟩=Ts (Ti Tl t):=Pk;have y:f.cell? ⟨D,1,U8⟩=Ts (Tm ba bl bc):=Pk;have A:f.cell? ⟨D,2,U8⟩=Ts (Tm la ll lc):=Pk;?_;go_enter func214,ntmps214;exact Yf
def Ma:∀args w,(Wu 256 args).run UB w= .ok (.enter 256 args) w:=Vv func256 Pg rfl
def FU(t)(b:au)(l:List aQ)(x w)(H:aU w)(m:bK w (.mk t b l) x)(z:bi (.mk t b l)):VB UB 217 #[bw x] w (nU (U1 false) (fun u _=>u=U1 (b !=[0])) (.mk t b l) t 1 w):=by
 have j:x.t=t:=Zag;have o:=fun(W:UN)(g:aq w W)=>Hk (.mk t b l) x 1 256 (fun u _=>u=U1 (b !=[0])) W (H.ext g) (bK.ext g _ m) z Ma (fun E K F p=>JK t b l x F (bK.ext (aa g p) _ m) z (j.symm.trans E) K);have c:=Tn o;obtain⟨t,ba,bl,bc,la,ll,lc⟩:=x;simp only at j;subst j;unfold bw at c⊢;simp only at c⊢;refine P1 w.heap.size fun D C=>P1 (w.alloc (Tq #[Ti Tl t,Tm ba bl bc,Tm la ll lc] 245)) fun f d=>have B:=Tn (show aq w f from Pq);have z0:f.cell? ⟨D,0,U8⟩=Ts (Ti Tl t):=Pk;have y:f.cell? ⟨D,1,U8⟩=Ts (Tm ba bl bc):=Pk;have A:f.cell? ⟨D,2,U8⟩=Ts (Tm la ll lc):=Pk;?_;go_enter func217,ntmps217;exact Yf
def ahC{n:Int}{x:Nat}(h1:-36028797018963968<=n)(c:n<36028797018963968)(g:x<256):bits .or Tl (n*256) (x:Int)=n*256+(x:Int):=by
 show Tl.wrap ((BitVec.ofInt 64 (n*256)|||BitVec.ofInt 64 (x:Int)).toNat:Int)=_
 have am:(BitVec.ofInt 64 (n*256)).toNat=((n*256)%2^64).toNat:=by rw[BitVec.toNat_ofInt];rfl
 have d:(BitVec.ofInt 64 (x:Int)).toNat=x:=by
  exact UM
 obtain⟨m,K⟩:∃m:Nat,((n*256)%2^64).toNat=m*256:=⟨((n*256)%2^64).toNat/256,Ph⟩;rw[BitVec.toNat_or,am,d,K];have f:m*256|||x=m*256+x:=by
  have:=Nat.shiftLeft_add_eq_or_of_lt (i:=8) (b:=x) Ph m;rw[Nat.shiftLeft_eq]at this;exact this.symm
 rw[f,IntKind.wrap_i64];omega
def su(x:UInt8):Int:=if x<128 then(x.toNat:Int)else(x.toNat:Int)-256
def lY(x:UInt8)(t:au)(k:Nat):Int:=(t.take k).foldl (fun n(y:UInt8)=>n*256+(y.toNat:Int)) (su x)
def wv(x)(t:au):∀k,-(128*256^k)<=lY x t k/\lY x t k<128*256^k:=by
 intro k;induction k with
 |zero=>
  have m:=x.toNat_lt;unfold lY su;rw[Wk,List.foldl_nil];have:(x<128)↔x.toNat<128:=YX;split<;>simp_all<;>omega
 |succ k b=>
  by_cases o:k<t.length
  .have S:t[k]?=Ts t[k]:=V8 o;have e:lY x t (k+1)=lY x t k*256+((t[k]).toNat:Int):=by
    exact eO (f:=fun(n:Int)(y:UInt8)=>n*256+(y.toNat:Int)) S (su x)
   have hb:=(t[k]).toNat_lt;rw[e,Int.pow_succ];generalize(256:Int)^k=p at b⊢;omega
  have e:lY x t (k+1)=lY x t k:=by
   unfold lY;rw[VD Ph,VD Ph]
  have c:(0:Int)<256^k:=Int.pow_pos Pi;rw[e,Int.pow_succ];generalize(256:Int)^k=p at b c⊢;omega
def JL{b:au}(h:gj b=true):∃x t,b=x::t/\t.length<=7:=by
 match b,h with
 |[x],_=>exact⟨x,[],rfl,Pm⟩
 |x::y::t,h=>
  refine⟨x,y::t,rfl,?_⟩;rw[gj]at h;simp only[V7,decide_eq_true_eq]at h;have:=h.1;simp only[Up];omega
def afY:∀n:Fin 256,IntKind.i8.wrap ((n.val:Nat):Int)=if n.val<128 then(n.val:Int)else(n.val:Int)-256:=Pj
def vq(x)(t:au)(k)(o:k<=6):-36028797018963968<=lY x t k/\lY x t k<36028797018963968:=by
 have h:=wv x t k;obtain rfl|rfl|rfl|rfl|rfl|rfl|rfl:k=0\/k=1\/k=2\/k=3\/k=4\/k=5\/k=6:=Ph;all_goals(simp only[Int.reducePow]at h;omega)
def KL{x}{t:au}{y:UInt8}(h:t[k]?=Ts y):lY x t (k+1)=lY x t k*256+(y.toNat:Int):=eO (f:=fun(n:Int)(y:UInt8)=>n*256+(y.toNat:Int)) h (su x)
def Ov(t)(b:au)(l:List aQ)(x w)(hC:bK w (.mk t b l) x)(_hs:bi (.mk t b l))(ht:t=2)(K:br 8 (.mk t b l)=true):VB UB 258 #[bw x] w (fun e w'=>∃u,e=UO u/\(u=Ti Tl (eP b))/\aq w w'):=by
 rw[bK]at hC;obtain⟨rfl,r,A,ad,q,H,V,Q,I⟩:=hC;obtain⟨t,ba,bl,bc,la,ll,lc⟩:=x;simp only at r A ad q H V Q I ht K⊢;subst ht;have hb:gj b=true:=by
  rw[br]at K;simp only[V7]at K;have:=K.2.1;unfold jp at this;rw[if_neg Pi,if_pos rfl]at this;exact this
 obtain⟨c,s,rfl,ab⟩:=JL hb;have Z:Hid (eP (c::s)=lY c s s.length):=Tn (by unfold eP lY su;rw[List.take_length]);obtain⟨g,o,rfl,E⟩:=q 0 c rfl;rw[YF]at E;refine P1 s.length fun S W=>?_;simp only[Up]at r A;rw[W]at r A ab Z;subst r;refine P4 W q fun HS ac=>P1 w.heap.size fun D C=>P1 (w.alloc (Tq #[Ti Tl 2,Tm (Ts ⟨g,o,U8⟩) (S+1) bc,Tm la ll lc] 245)) fun f d=>have B:=Tn (show aq w f from Pq);have z1:f.cell? ⟨D,1,U8⟩=Ts (Tm (Ts ⟨g,o,U8⟩) (S+1) bc):=Pk;have z3:=ae E B;?_;have w8:IntKind.i8.wrap (c.toNat:Int)=su c:=by
  have m:=c.toNat_lt;have:(c<128)↔c.toNat<128:=YX;rw[afY ⟨c.toNat,m⟩];unfold su;by_cases h:c<128
  .rw[if_pos h,if_pos (this.1 h)]
  rw[if_neg h,if_neg (fun h2=>h (this.2 h2))]
 have z:=vq c s 0 Ph;have p:-36028797018963968<=su c/\su c<36028797018963968:=by unfold lY at z;rw[Wk,List.foldl_nil]at z;exact z
 have O:Tl.wrap (su c)=su c:=IntWalk.i64_in _ Ph;have ah:=p.1;have X:=p.2;unfold bw;simp only;rw[Z.out];clear K hb q W H V Q I E;go_enter func258,ntmps258;go_upto_region 1 with fail;try rw[d]
 try rw[C]
 clear d C;go_upto_region 2 with fail;try rw[O]
 clear w8 O z3 ah X z p;by_cases L:S=0
 .subst L;by_cases T:bc=1
  .subst T;go_wp2;go_loopw [16,3] (fun j G wr=>j=Ti Tl 0/\G=Ti Tl (su c)/\aq w wr) (fun _ _ _=>0)
   case atStart=>exact⟨rfl,rfl,B⟩
   exact Zca
  have:1<bc:=by omega
  go_wp2;go_loopw [16,3] (fun j G wr=>j=Ti Tl 0/\G=Ti Tl (su c)/\aq w wr) (fun _ _ _=>0)
  case atStart=>exact⟨rfl,rfl,B⟩
  exact Zca
 have al:1<bc:=by omega
 go_wp2_with fail;clear z1;go_loopw [16,3] (fun j G wr=>∃k:Nat,k<=S/\j=Ti Tl k/\G=Ti Tl (lY c s k)/\aq w wr) (fun j _ _=>S-(VS j).toNat)
 case atStart=>exact⟨0,Ph,rfl,by unfold lY;rw[Wk,List.foldl_nil],B⟩
 obtain⟨k,hk,rfl,rfl,F⟩:=hrel;have ys:=Tn F;clear F;by_cases R:k<S
 .obtain⟨y,U⟩:=ay HS R;obtain⟨g',o',hg,J⟩:=(ac.ext ys) (k+1) y (by rw[YO];exact U);cases hg;rw[show o+(k+1)=o+1+k from Ph]at J;have Y:=y.toNat_lt;have hb:=vq c s k Ph;refine P4 (KL (x:=c) U) (ahC hb.1 hb.2 Y) fun P M=>P1 (lY c s k) fun N hN=>?_;rw[hN]at hb P M⊢;obtain⟨hb1,hb2⟩:=hb;clear U hN;go_wp2;go_roundw
  case rel=>exact⟨k+1,Ph,Pt,by rw[M.out,<-P.out],ys⟩
  case measure=>simp[VS];omega
 obtain rfl:k=S:=by omega
 go_wp2;go_ret;exact⟨_,rfl,rfl,ys⟩
def adK:∀args w,(Wu 258 args).run UB w= .ok (.enter 258 args) w:=Vv func258 Pg rfl
def Ls(t)(b:au)(l:List aQ)(x w)(H:aU w)(m:bK w (.mk t b l) x)(z:bi (.mk t b l)):VB UB 219 #[bw x] w (nU (Ti Tl 0) (fun u _=>u=Ti Tl (eP b)) (.mk t b l) t 2 w):=by
 have j:x.t=t:=Zag;have o:=fun(W:UN)(g:aq w W)=>Jh (.mk t b l) x 2 258 (fun u _=>u=Ti Tl (eP b)) W (H.ext g) (bK.ext g _ m) z adK (fun E K F p=>Ov t b l x F (bK.ext (aa g p) _ m) z (j.symm.trans E) K);have c:=Tn o;obtain⟨t,ba,bl,bc,la,ll,lc⟩:=x;simp only at j;subst j;unfold bw at c⊢;simp only at c⊢;refine P1 w.heap.size fun D C=>P1 (w.alloc (Tq #[Ti Tl t,Tm ba bl bc,Tm la ll lc] 245)) fun f d=>have B:=Tn (show aq w f from Pq);have z0:f.cell? ⟨D,0,U8⟩=Ts (Ti Tl t):=Pk;have y:f.cell? ⟨D,1,U8⟩=Ts (Tm ba bl bc):=Pk;have A:f.cell? ⟨D,2,U8⟩=Ts (Tm la ll lc):=Pk;?_;go_enter func219,ntmps219;exact Yf
def Ko:∀{t:au},1<t.length->gj t=false->dY t=dY (t.drop 1)
 |[],h,_=>QX
 |[_],h,_=>QX
 |x::y::t,_,h=>by rw[dY,if_neg Rf];rfl
def Jj:∀{t:au},t.length<=1\/gj t=true->dY t=t
 |[],_=>by rw[dY]
 |[_],_=>by rw[dY]
 |x::y::t,h=>by rw[dY,if_pos (h.resolve_left Pm)]
def Og:∀(k m i:Nat),i<k->(be k m)[i]?=Ts (VI (m/256^(k-1-i)))
 |0,_,_,h=>Ph
 |k+1,m,0,_=>by rw[be];rfl
 |k+1,m,i+1,h=>by rw[be,YO,Og k m i Ph,show k+1-1-(i+1)=k-1-i from Ph]
def Ja(n:Int)(i:Nat):Int:=n/2^(56-8*i)%256
def ON(n i)(h:i<8):∃x:UInt8,(be 8 (n%18446744073709551616).toNat)[i]?=Ts x/\(x.toNat:Int)=Ja n i:=by
 refine⟨_,Og 8 _ i h,?_⟩;unfold Ja;rw[show(VI ((n%18446744073709551616).toNat/256^(8-1-i))).toNat=(n%18446744073709551616).toNat/256^(8-1-i)%256 from Pm];obtain rfl|rfl|rfl|rfl|rfl|rfl|rfl|rfl:i=0\/i=1\/i=2\/i=3\/i=4\/i=5\/i=6\/i=7:=Ph;all_goals simp only[Nat.reducePow,Nat.reduceSub,Nat.reduceMul,Int.reducePow]
 all_goals omega
def Il{t:au}{d:Nat}(h:gU t= .ok (n,d)):1<=d/\d<=3/\d<=t.length/\n<65536:=by
 cases t with
 |nil=>cases h
 |cons f t=>
  rw[gU]at h;have cf:=f.toNat_lt;split at h
  .next h1=>
   simp only[Except.ok.injEq,Yy]at h;obtain⟨rfl,rfl⟩:=h;exact⟨UY _,Pi,by rw[Up];omega,Ph⟩
  split at h
  .cases h
  next c=>
  split at h
  .cases h
  next A=>
  dsimp only at h;split at h
  .cases h
  next l=>
  simp only[Except.ok.injEq,Yy]at h;obtain⟨rfl,rfl⟩:=h;have j:f.toNat=129\/f.toNat=130:=by
   rcases Classical.em (f=129)with e|e
   .exact .inl (by rw[e];rfl)
   rcases Classical.em (f=130)with g|g
   .exact .inr (by rw[g];rfl)
   exact absurd ⟨e,g⟩ c
  refine⟨Ph,Ph,by rw[Up];omega,?_⟩;have o:(t.take (f.toNat-128)).length<=2:=QD;generalize t.take (f.toNat-128)=s at o;match s,o with
  |[],_=>simp
  |[a],_=>have:=a.toNat_lt;simp;omega
  |[a,b],_=>have:=a.toNat_lt;have:=b.toNat_lt;simp;omega
def pz:∀{d:Nat}{s:au}{y:aQ}{r:au},dh d s= .ok (y,r)->r.length+2<=s.length
 |d,[],y,r,h=>by cases d<;>cases h
 |0,_::_,y,r,h=>Rw
 |d+1,c::t,y,r,h=>by
  rw[dh]at h;split at h
  .cases h
  cases f:gU t with
  |error e=>rw[f]at h;cases h
  |ok p=>
   obtain⟨n,b⟩:=p;rw[f]at h;obtain⟨l,j,g,m⟩:=Il f;dsimp only at h;split at h
   .cases h
   split at h
   .cases h
   have u:((t.drop b).drop n).length+2<=(c::t).length:=by
    rw[VT,VT,Up];omega
   split at h
   .split at h
    .cases h;exact u
    cases h
   split at h
   .cases h
   cases h;exact u
def ph{g:au->Except Int (aQ×au)}{f:Nat}{s:au}(z:s≠[]):nI g (f+1) s=match g s with
  | .error _=> .error 71
  | .ok (y,r)=>match nI g f r with
   | .error e=> .error e
   | .ok l=> .ok (y::l):=by rw[nI,if_neg z];try rfl
def xe{g:au->Except Int (aQ×au)}(f):nI g f []= .ok []:=by
 cases f<;>rfl
def nH(g:au->Except Int (aQ×au))(acc:List aQ)(f:Nat)(s:au):Except Int (List aQ):=match nI g f s with
 | .error e=> .error e
 | .ok l=> .ok (acc++l)
def BU{g:au->Except Int (aQ×au)}(acc:List aQ)(f):nH g acc f []= .ok acc:=by unfold nH;rw[xe];simp
def vt{g:au->Except Int (aQ×au)}(f)(s:au):nH g [] f s=nI g f s:=by
 unfold nH;cases nI g f s<;>rfl
def M8{g:au->Except Int (aQ×au)}{acc:List aQ}{f:Nat}{s:au}{e}(z:s≠[])(h:g s= .error e):nH g acc (f+1) s= .error 71:=by
 unfold nH;rw[ph z,h]
def Lq{g:au->Except Int (aQ×au)}{acc:List aQ}{f:Nat}{s r:au}{y:aQ}(z:s≠[])(h:g s= .ok (y,r)):nH g acc (f+1) s=nH g (acc++[y]) f r:=by
 unfold nH;rw[ph z,h];dsimp only;cases nI g f r with
 |error e=>rfl
 |ok l=>simp
def Dj{g:au->Except Int (aQ×au)}:∀{f:Nat}{s:au}{l:List aQ},nI g f s= .ok l->l.length<=f
 |0,s,l,h=>by
  rw[nI]at h;split at h
  .cases h;simp
  cases h
 |f+1,s,l,h=>by
  rcases Classical.em (s=[])with e|e
  .subst e;rw[xe]at h;cases h;simp
  rw[ph e]at h;split at h
  .cases h
  split at h
  .cases h
  next c=>
  cases h;rw[Up];have:=Dj c;omega
def OG:UV->Nat
 |Tm _ n _=>n
 |_=>0
def Fh(v n):fK (fun _=>v) n=Array.replicate n v:=by
 apply Yc;intro j;by_cases Q:j<n
 .rw[gm _ Q];simp[Q]
 exact Zct
def mH(A:Array UV)(d):fK (fun i=>A.getD i d) A.size=A:=by
 apply Yc;intro j;by_cases Q:j<A.size
 .rw[gm _ Q];simp[Q]
 rw[WB RC,WB Ph]
def OP{A n}(h:aS w A T f 8)(cf:∀j,j<8->f j=Ti Uy (Ja n j))(j):aY w (Ts ⟨A,j,U8⟩) ((be 8 (n%18446744073709551616).toNat).drop j):=fun i x m=>by
 rw[YE]at m;have p:j+i<8:=by have:=(UU.1 m).1;rw[aI]at this;exact this
 obtain⟨y,h1,c⟩:=ON n (j+i) p;rw[h1]at m;cases m;exact⟨_,_,rfl,by rw[h.cell p,cf _ p,c]⟩
def mO(n)(w:UN):VB UB 148 #[Ti Tl n] w (gF (eC n) w):=by
 refine P1 w.heap.size fun D C=>P1 (w.alloc (Tq #[Ti Tl 0,zz,zz] 245)) fun H d=>have B:=Tn (show aq w H from Pq);have ac:Hid (H.heap[D]?=Ts (Tq #[Ti Tl 0,zz,zz] 245 (0,0))):=Tn (PP d C);have a0:Hid (H.heap.size=D+1):=Tn Qx;have hDw:w.heap.size<=D:=Ph;?_;go_enter func148,ntmps148;go_upto_region 1 with fail;try rw[d]
 try rw[C]
 clear d;refine P1 (H.alloc (Tq #[Ti Uy 0,Ti Uy 0,Ti Uy 0,Ti Uy 0,Ti Uy 0,Ti Uy 0,Ti Uy 0,Ti Uy 0] 305)) fun P T=>have s:=Tn (show aq w P by rw[<-T];exact af B _);have HR1:Hid (aS P (D+1) 305 (fun _=>Ti Uy 0) 8):=Tn (by rw[<-T,<-a0.out];unfold aS;rw[Fh];exact UZ _ _);have HI1:=Tn (((show aq H P from QA).block D (UE.1 ac).1).trans ac);?_;go_upto_region 2 with fail;try rw[T]
 try rw[a0.out]
 clear T;go_wp2;go_loopw [6] (fun i wr=>∃k:Nat,∃f:Nat->UV,k<=8/\i=Ti Tl k/\aS wr (D+1) 305 f 8/\(∀j,j<k->f j=Ti Uy (Ja n j))/\wr.heap[D]?=Ts (Tq #[Ti Tl 0,zz,zz] 245 (0,0))/\aq w wr) (fun i _=>8-(VS i).toNat)
 case atStart=>exact⟨0,_,Ph,rfl,HR1,fun j Q=>Ph,HI1,s⟩
 obtain⟨k,f,o,rfl,p,cf,ad,g⟩:=hrel;refine P5 p cf ad g fun Z HF x ys=>?_;by_cases R:k<8
 .have e0:=p.cell R;have g0:=p.free k;go_wp2_with fail;have U:=Z.out.set (show w.heap.size<=D+1 from Ph) ys k (Ti Uy (n/2^(56-8*k)%256));go_roundw
  case rel=>
   refine⟨k+1,_,Ph,Pt,U.1,fun j Q=>?_,(Below.heap_setCell _ _ _ _ (fun e=>by have e2:D=D+1:=e;omega)).trans x,U.2⟩;unfold sC;split
   .next h=>subst h;rfl
   next h=>exact HF.out j Ph
  case measure=>simp[VS];omega
 obtain rfl:k=8:=by omega
 have HB:=Tn (OP p HF);obtain⟨V1,hV1⟩:∃V1,V1=wr:=⟨_,rfl⟩;subst hV1;refine P1 (be 8 (n%18446744073709551616).toNat) fun M hM=>have HML:Hid (M.length=8):=Tn (by rw[<-hM,aI]);have HIN:Hid (eC n= .mk 2 (dY M) []):=Tn (by rw[<-hM];simp only[eC,cS,Int.reducePow]);?_;rw[hM]at HB;clear hM;go_wp2;go_loopw [5] (fun b wr=>∃(j N:Nat),j+N=8/\1<=N/\b=Tm (Ts ⟨D+1,j,U8⟩) N N/\dY (M.drop j)=dY M/\aq V1 wr) (fun b _=>OG b)
 case atStart=>exact⟨0,8,rfl,Ph,rfl,rfl,P0⟩
 obtain⟨j,N,hjN,hN1,rfl,ab,K⟩:=hrel;refine P4 ab K fun HT F=>P1 (M.drop j) fun t ht=>have m:Hid (t.length=N):=Tn (by rw[<-ht,VT,HML.out];omega);have S:Hid (aY wr (Ts ⟨D+1,j,U8⟩) t):=Tn (by rw[<-ht];exact(HB j).ext K);have HLE:Hid (∀W,aq wr W->VB UB 207 #[Tm (Ts ⟨D+1,j,U8⟩) N N] W (bM (U1 (gj t)) W)):=Tn fun W hW=>yR t _ W ⟨_,_,by rw[m.out],by rw[m.out];exact UY _,Pr,S.ext hW⟩ (by rw[m.out];omega);?_;rw[ht]at HT;have HTD:=Tn ht;clear ht;go_upto_region 8 with fail;refine aG (fun G=>aq wr G) P0 ?_;repeat
  (first|refine az rfl rfl rfl rfl ?_|refine aF rfl rfl rfl rfl ?_|refine aw rfl ?_|refine aj rfl rfl rfl rfl rfl ?_|((first|refine av (v:=?_) rfl rfl (fun hb G l=>?_) ?_|refine ar (v:=?_) rfl rfl rfl (fun hb1 hb G l=>?_) ?_|refine ax (v:=?_) rfl (fun G l=>?_) ?_);rotate_left;(focus(have f0:=l;unfold ak;go_simp;first|exact aD l|(refine(HLE _ l).mono ?_;rintro e w''⟨rfl,c⟩;exact aH (aa l c))))))
  simp only[Act.put,P7]
 refine aA fun G V=>have Id:=Tn V;?_;cases O:(decide ((1:Int)<(N:Int))&& !gj t)
 .have HTS:Hid (dY M=t):=Tn (by
   rw[<-HT.out];refine Jj ?_;rw[m.out];simp only[Bool.and_eq_false_iff,decide_eq_false_iff_not,Bool.not_eq_false']at O;rcases O with h|h
   .exact .inl Ph
   exact .inr h)
  go_wp2_with fail;refine(nh t _ _ ⟨_,_,by rw[m.out],by rw[m.out];exact UY _,Pr,S.ext Id⟩ (by rw[m.out];omega)).mono ?_;rintro e y⟨v5,rfl,r,ah⟩;have J:=aa F (aa Id ah);have X:=aa ys J;have q:=(J.block D (UE.1 x).1).trans x;rw[m.out]at r;obtain⟨a5,c5,rfl,hc5,Y,al⟩:=fQ m r;have E:=bx q hDw X (Ti Tl 2) (Tm a5 N c5) (zz);refine PF y D (Ti Tl 2) (Tm a5 N c5) (zz) fun L A=>?_;rw[A]at E;refine PC E A r al (Wp (UE.1 x).1 (VG F.size Id.size)) fun u I an HB5 HDL=>have HWS:Hid (w.heap.size<=G.heap.size):=Tn (aa ys (aa F Id)).size;PK q fun e0 am e2=>PL q fun g0 g1 g2=>?_;clear A;go_wp2_with fail;rw[I.out];refine PK u.1 fun q0 q1 q2=>VC (v:=UT #[Ti Tl 2,Tm a5 N c5,zz]) (by simp[Vo,results148,go_sem,q0,q1,q2]) rfl ⟨⟨2,a5,N,c5,U8,0,0⟩,rfl,?_,u.2⟩;intro w2 hw2;rw[HIN.out,HTS.out,bK];refine⟨rfl,m.symm,by rw[m.out];exact hc5,Y,?_,rfl,UY _,VF _,SF⟩;refine Bj an HB5 fun k h1 c=>?_;have hz6:L.heap.size=y.heap.size:=by rw[<-I.out];simp[XY]
  have hdl:=HDL.out;have hws:=HWS.out;have zs:¬k=D:=Ph;rw[hw2 k ⟨Ph,Ph⟩,<-I.out,Below.heap_setCell _ _ _ _ zs,Below.heap_setCell _ _ _ _ zs,Below.heap_setCell _ _ _ _ zs]
 have z:1<N/\gj t=false:=by
  simp only[V7,decide_eq_true_eq,Wh]at O;exact⟨Ph,O.2⟩
 obtain⟨z,ao⟩:=z
 have HT2:Hid (dY (M.drop (j+1))=dY M):=Tn (by
  rw[<-HT.out,Ko (by rw[m.out];exact z) ao,<-HTD.out,List.drop_drop])
 go_wp2;go_roundw
 case rel=>exact⟨j+1,N-1,Ph,Ph,Pt,HT2,aa F Id⟩
 case measure=>simp[OG];omega
structure kf(base:Nat)(v:UV)(w:UN)(acc:List (aQ×bU)):Prop where
 own:w.ownsRow base 245 3 v acc.length (bh acc)
 its:∀p∈acc,jg (fun k=>base<=k/\k<w.heap.size/\v.ownBlock≠Ts k) w p.1 p.2
def kf.nil(base)(w:UN):kf base (zz) w []:=⟨WO _ _ _ _,fun p x=>Zbq⟩
def kf.fr{base}{acc:List (aQ×bU)}(h:kf base v w acc)(P:Fr S w b)(l:∀k,S k->k<base):kf base v b acc:=
 ⟨eM h.own P (fun g c e=>by have:=bE h.own g c;have:=l g e;omega),fun p x=>(h.its p x).move (fun k o=>P.block k o.2.1 (fun e=>by have:=l k e;have:=o.1;omega)) (fun k o=>⟨o.1,Wp o.2.1 P.size,o.2.2⟩)⟩
def kf.ext{base}{acc:List (aQ×bU)}(h:kf base v w acc)(g:aq w b):kf base v b acc:=h.fr (Uh (S:=fun _=>False) g) (fun _ o=>o.elim)
def xW(l:List (aQ×bU))(p:aQ×bU):bh (l++[p])=bh l++[Ti Tl p.2.t,Tm p.2.ba p.2.bl p.2.bc,Tm p.2.la p.2.ll p.2.lc]:=by
 unfold bh;rw[List.flatMap_append];rfl
def kf.snoc{base c:Nat}{acc:List (aQ×bU)}{p:aQ×bU}{o:Obj}(h:kf base v w acc)(hn:acc.length=n)(x:jg (fun k=>base<=k/\k<w.heap.size/\v.ownBlock≠Ts k) w p.1 p.2)(r:b.ownsRow base 245 3 (Tm (Ts ⟨g,0,U8⟩) (n+1) c) (n+1) (bh acc++[Ti Tl p.2.t,Tm p.2.ba p.2.bl p.2.bc,Tm p.2.la p.2.ll p.2.lc]))(S:(w.alloc o).grownBy b v.ownBlock)(d:v.ownBlock=Ts g\/g=(w.alloc o).heap.size):
  kf base (Tm (Ts ⟨g,0,U8⟩) (n+1) c) b (acc++[p]):=by
 have P:Fr (fun k=>v.ownBlock=Ts k) w b:=(Fr.alloc _ w o).trans ((Fr.grown S).mono fun _ _ e=>e);refine⟨by rw[xW,Uo,WJ,hn];exact r,fun q N=>?_⟩;have j:jg (fun k=>base<=k/\k<w.heap.size/\v.ownBlock≠Ts k) w q.1 q.2:=by
  rcases List.mem_append.1 N with N|N
  .exact h.its q N
  rw[VP]at N;rw[N];exact x
 refine j.move (fun k f=>P.block k f.2.1 f.2.2) (fun k f=>⟨f.1,Wp f.2.1 P.size,fun e=>?_⟩);have l:g=k:=by have:(Ts g:Option Nat)=Ts k:=e;exact Vm this
 rcases d with d|d
 .exact f.2.2 (by rw[d,l])
 rw[Ud]at d;have:=f.2.1;omega
def kf.grew{base}{acc:List (aQ×bU)}{o:Obj}(h:kf base v w acc)(S:(w.alloc o).grownBy b v.ownBlock):Fr (fun k=>base<=k) w b:=
 (Fr.alloc _ w o).trans ((Fr.grown S).mono fun _ _ e=>bE h.own _ e)
def kf.done{base}{acc:List (aQ×bU)}(h:kf base v w acc)(hn:acc.length=n):∃a c,v=Tm a n c/\n<=c/\c<=VL/\cr 3 fW w a acc/\(∀d:UN,(∀k,ta base w.heap.size k->d.heap[k]?=w.heap[k]?)->cr 3 fW d a acc)/\∀p∈acc,jg (ta base w.heap.size) w p.1 p.2:=by
 have b:=h.own;rw[hn]at b;obtain⟨a,c,rfl,h1,l,A⟩:=rK hn b;exact⟨a,c,rfl,h1,l,A,fun d j=>Iq b A fun k g f=>j k ⟨g,f⟩,fun p x=>(h.its p x).move (fun _ _=>rfl) fun k o=>⟨o.1,o.2.1⟩⟩
def iy:UV:=UT #[Ti Tl 0,zz,zz]
def lH(c:UN)(r:Except Int (aQ×au))(w:UN)(e:Xo)(b:UN):Prop:=∃u v k,e=UO (UW #[u,v,Ti Tl k])/\aq w b/\match r with
 | .error x=>u=iy/\v=zz/\k=x
 | .ok (y,rest)=>k=0/\(∃x,u=bw x/\jg (ta w.heap.size b.heap.size) b y x)/\aJ c v rest
def lH.no{r:Except Int (aQ×au)}{x}(u:r= .error x)(g:aq w b):lH c r w (UO (UW #[iy,zz,Ti Tl x])) b:=by
 subst u;exact⟨_,_,_,rfl,g,rfl,rfl,rfl⟩
def lH.yes{r:Except Int (aQ×au)}{y:aQ}{rest:au}{x}(u:r= .ok (y,rest))(g:aq w b)(h1:jg (ta w.heap.size b.heap.size) b y x)(c:aJ d v rest):lH d r w (UO (UW #[bw x,v,Ti Tl 0])) b:=by
 subst u;exact⟨_,_,_,rfl,g,rfl,⟨x,rfl,h1⟩,c⟩
def FV(d:Nat):Prop:=∀(s:au)(v:UV)(b w:UN),aU w->aJ b v s->aq b w->s.length<=1000000000->VB UB 210 #[v,Ti Tl (d:Int)] w (lH b (dh d s) w)
def vJ(d):dh d []= .error 70:=by cases d<;>rfl
def qV{d}{c:UInt8}{t:au}(h:cC c.toNat=false):dh d (c::t)= .error 71:=by
 cases d with
 |zero=>rfl
 |succ d=>rw[dh,if_pos h]
def uT{d:Nat}{c:UInt8}{t:au}{x}(h:cC c.toNat=true)(p:gU t= .error x):dh (d+1) (c::t)= .error x:=by
 rw[dh,if_neg Rf,p]
def Dc{d b:Nat}{c:UInt8}{t:au}(h:cC c.toNat=true)(p:gU t= .ok (n,b))(hb:8192<1+b+n):dh (d+1) (c::t)= .error 71:=by
 rw[dh,if_neg Rf,p];exact if_pos hb
def vx{d b:Nat}{c:UInt8}{t:au}(h:cC c.toNat=true)(p:gU t= .ok (n,b))(hb:¬8192<1+b+n)(z:t.length-b<n):dh (d+1) (c::t)= .error 70:=by
 rw[dh,if_neg Rf,p];dsimp only;rw[if_neg hb,if_pos Sb]
def sI{d b:Nat}{c:UInt8}{t:au}(h:cC c.toNat=true)(p:gU t= .ok (n,b))(hb:¬8192<1+b+n)(z:¬t.length-b<n)(J:c.toNat≠48):
  dh (d+1) (c::t)=if jp c.toNat ((t.drop b).take n)then .ok (.mk c.toNat ((t.drop b).take n) [],(t.drop b).drop n)else .error 71:=by
 rw[dh,if_neg Rf,p];dsimp only;rw[if_neg hb,if_neg Sb,if_pos (fun e=>J (by rw[e];rfl))]
def wJ{d b}{c:UInt8}{t:au}(h:cC c.toNat=true)(p:gU t= .ok (n,b))(hb:¬8192<1+b+n)(z:¬t.length-b<n)(J:c.toNat=48):
  dh (d+1) (c::t)=match nH (dh d) [] ((t.drop b).take n).length ((t.drop b).take n)with
   | .error _=> .error 71
   | .ok l=> .ok (.mk 48 [] l,(t.drop b).drop n):=by
 have f:c=48:=UInt8.toNat_inj.1 J
 rw[dh,if_neg Rf,p]
 dsimp only
 rw[if_neg hb,if_neg Sb,if_neg (fun e=>e f),vt];try rfl
def vd{t:au}{x}(h:gU t= .error x):lG t=UW #[Ti Tl 0,Ti Tl 0,Ti Tl x]:=by unfold lG;rw[h]
def abI{t:au}{b:Nat}(h:gU t= .ok (n,b)):lG t=UW #[Ti Tl (n:Int),Ti Tl (b:Int),Ti Tl 0]:=by unfold lG;rw[h]
def CK{t:au}{x}(h:gU t= .error x):x=70\/x=71:=by
 cases t with
 |nil=>cases h;exact .inl rfl
 |cons f t=>
  rw[gU]at h;split at h
  .cases h
  split at h
  .cases h;exact .inr rfl
  split at h
  .cases h;exact .inl rfl
  dsimp only at h;split at h
  .cases h;exact .inr rfl
  cases h
def rB:∀{d:Nat}{s:au}{x:Int},dh d s= .error x->x=70\/x=71
 |d,[],x,h=>by rw[vJ]at h;cases h;exact .inl rfl
 |0,_::_,x,h=>by cases h;exact .inr rfl
 |d+1,c::t,x,h=>by
  rw[dh]at h;split at h
  .cases h;exact .inr rfl
  cases b:gU t with
  |error e=>rw[b]at h;cases h;exact CK b
  |ok p=>
   obtain⟨n,f⟩:=p;rw[b]at h;dsimp only at h;split at h
   .cases h;exact .inr rfl
   split at h
   .cases h;exact .inl rfl
   split at h
   .split at h
    .cases h
    cases h;exact .inr rfl
   split at h
   .cases h;exact .inr rfl
   cases h
def aY.drop{o:Nat}{s:au}(h:aY w (Ts ⟨g,o,U8⟩) s)(k):aY w (Ts ⟨g,o+k,U8⟩) (s.drop k):=fun i x m=>by
 rw[YE]at m;obtain⟨b,off,hb,J⟩:=h (k+i) x m;cases hb;exact⟨_,_,rfl,RO⟩
def aY.take{s:au}(h:aY w a s)(k):aY w a (s.take k):=fun i x m=>h i x (by
 rw[List.getElem?_take]at m;split at m
 .exact m
 cases m)
def Hd(d:UN)(B:Nat)(l:List aQ)(u:UV)(w:UN):Prop:=∃a n c b,u=Tm a n c/\(b:List (aQ×bU)).map (·.1)=l/\b.length=n/\n<=c/\c<=VL/\w.ownsRow B 245 3 u n (bh b)/\∀p∈b,bK d p.1 p.2
def Mb(t)(b:au)(l:List aQ)(x F w)(G:aq F w)(Q:bK F (.mk t b l) x)(z:bi (.mk t b l)):VB UB 252 #[bw x] w (fun e R=>∃u,e=UO u/\Hd F w.heap.size l u R/\aq w R):=by
 rw[bK]at Q;obtain⟨rfl,B,A,D,p,j,g,L,d⟩:=Q;rw[bi]at z;obtain⟨_,C,_⟩:=z;obtain⟨t,ba,bl,bc,la,ll,lc⟩:=x;simp only at B A D p j g L d⊢;subst j;obtain⟨H,f,y,o⟩:=sP d;refine P3 f o (y.ext G) fun M I J=>P1 l.length fun m c=>have N:Hid (H.length=m):=Tn (by rw[<-c,<-f,VR]);?_;rw[c]at g C;unfold bw;simp only;rw[c];go_enter func252,ntmps252;go_wp2_with fail;refine(vB H la m lc _ N g C (J.ext (af P0 _))).mono ?_;rintro e S⟨v,rfl,r,q⟩;obtain⟨a1,c1,rfl,O,E,K⟩:=rK N r;refine P4 (jV r (show w.heap.size<=_ from Q9)) (aa (af P0 _) q) fun P s=>?_;go_wp2;go_ret;exact⟨_,rfl,⟨a1,m,c1,H,rfl,M,N,O,E,P,I⟩,s⟩
def ab0:∀args w,(Wu 252 args).run UB w= .ok (.enter 252 args) w:=Vv func252 Pg rfl
def wP(t)(b:au)(l:List aQ)(x m w)(o:aq m w)(H:aU w)(y:bK m (.mk t b l) x)(z:bi (.mk t b l)):VB UB 211 #[bw x] w (nU (zz) (Hd m w.heap.size l) (.mk t b l) t 48 w):=by
 have r:x.t=t:=by rw[bK]at y;exact y.1
 have E:=fun(W:UN)(g:aq w W)=>Jp (.mk t b l) x 48 252 (Hd m w.heap.size l) W (H.ext g) (bK.ext (aa o g) _ y) z ab0 (fun _ _ P p=>(Mb t b l x m P (aa o (aa g p)) y z).mono fun e Q h=>by
  obtain⟨u,h1,⟨a,n,c,G,q1,q2,N,J,L,K,M⟩,A⟩:=h
  exact⟨u,h1,⟨a,n,c,G,q1,q2,N,J,L,jV K (aa g p).size,M⟩,A⟩)
 have j:=Tn E;obtain⟨t,ba,bl,bc,la,ll,lc⟩:=x;simp only at r;subst r;unfold bw at j⊢;simp only at j⊢;refine P1 w.heap.size fun D C=>P1 (w.alloc (Tq #[Ti Tl t,Tm ba bl bc,Tm la ll lc] 245)) fun f d=>have B:=Tn (show aq w f from Pq);have z0:f.cell? ⟨D,0,U8⟩=Ts (Ti Tl t):=Pk;have I:f.cell? ⟨D,1,U8⟩=Ts (Tm ba bl bc):=Pk;have O:f.cell? ⟨D,2,U8⟩=Ts (Tm la ll lc):=Pk;?_;go_enter func211,ntmps211;go_upto_region 1 with fail;try rw[d]
 try rw[C]
 go_wp2_with fail;refine(j f B).mono ?_;rintro e R⟨u,k,rfl,q,F⟩;refine P4 (aa B q) F fun s Z=>?_;go_wp2;go_ret2
 exact⟨u,k,rfl,s,Z⟩
section
section
variable {P:Program} {ops:Array Oper} {Q:Exit->Act->UN->Prop} {md:Region.Mode} {S:UN->Prop} {L:Nat}
def bj(P:Program)(c:Region.Mode)(ops:Array Oper)(Q:Exit->Act->UN->Prop)(S:UN->Prop)(L:Nat):Nat->Array Bool->Act->UN->Prop
 |0,W,a,w=>Ya c ops W=[]/\Q .normal a w
 |f+1,W,a,w=>(Ya c ops W=[]->Q .normal a w)/\∀i∈Ya c ops W,wpOp P ops Q i (fun d b=>(i≠L->S b)/\bj P c ops Q S L f (W.setIfInBounds i true) d b) a w
def bj.any:∀{f:Nat}{W:Array Bool}{a:Act}{w:UN},bj P md ops Q S L f W a w->wpAny P md ops Q f W a w
 |0,_,_,_,h=>h
 |_+1,_,_,_,h=>⟨h.1,fun i hi=>wpOp_mono (fun _ _ k=>k.2.any) (h.2 i hi)⟩
def M7(b:Region.Mode)(ops:Array Oper)(j i:Nat):Bool:=((ops[j]?).map fun o=>o.after.any fun e=>Region.binds b e&&e.on==i).getD false
def bj.take{i}{r:Oper}{v}(hi:ops[i]?=Ts r)(z:Region.noSelect ops=true)(D:M7 md ops L i=true)(M:∀c a w,Q (.panic c) (a.put r.dst v) w->Q (.panic c) a w):
  ∀(f:Nat)(W:Array Bool)(a:Act)(w:UN),Region.free md ops W i=true->(Ya md ops W).contains i=true->YieldsIf P ops S r v a->S w->
   bj P md ops Q S L f (W.setIfInBounds i true) (a.put r.dst v) w->bj P md ops Q S L (f+1) W a w:=by
 have B:=Region.noSelect_spec z;suffices key:∀(f:Nat)(W:Array Bool)(a:Act)(w:UN),
   (∀j s,ops[j]?=Ts s->j≠i->W.getD j true=false->(∀e∈s.after,Region.binds md e=true->e.on≠i)->r.apart ops s=true)->
   i∈Ya md ops W->YieldsIf P ops S r v a->S w->bj P md ops Q S L f (W.setIfInBounds i true) (a.put r.dst v) w->bj P md ops Q S L (f+1) W a w from
  fun f W a w cf u U l h=>key f W a w (Region.free_spec hi cf) (by simpa using u) U l h
 intro f;induction f with
 |zero=>
  intro W a w _ u U l H;refine⟨fun h=>(by rw[h]at u;cases u),fun j C=>?_⟩;rcases Nat.decEq j i with d|d
  .have t:=ready_mono C d;rw[H.1]at t;cases t
  subst d;exact U.wpOp hi l ⟨fun _=>l,H⟩
 |succ f R=>
  intro W a w g u U l H;refine⟨fun h=>(by rw[h]at u;cases u),fun j C=>?_⟩;rcases Nat.decEq j i with d|d
  .obtain⟨q,s,m,x⟩:=mem_ready.1 C;have K:=(mem_ready.1 u).1;have p:∀e∈s.after,Region.binds md e=true->e.on≠i:=fun e G hb J=>by
    have h1:=x e G hb;rw[J]at h1;have t:W.getD i false=W.getD i true:=by
     rcases Nat.lt_or_ge i W.size with h|h
     .simp[h]
     simp[WB h]at h1
    rw[t,K]at h1;cases h1
   have F:j≠L:=fun e=>by
    subst e;unfold M7 at D;rw[m]at D;simp only[Option.map_some,Option.getD_some,Array.any_eq_true',V7,beq_iff_eq]at D;obtain⟨e,G,hb,T⟩:=D;exact p e G hb T
   have t:=wpOp_putIf m (g j s m d q p) (fun cs b=>B i r cs b hi) (fun cs b=>B j s cs b m) M U (H.2 j (ready_mono C d));refine wpOp_mono (fun O N A=>⟨A.2.1,?_⟩) t;refine R (W.setIfInBounds j true) O N (fun k ok o I y E=>g k ok o I ?_ E) (ready_mono u (Ne.symm d)) A.1 (A.2.1 F) ?_
   .rcases Nat.decEq j k with e|e
    .rw[getD_set_ne true e]at y;exact y
    subst e;exact q
   rw[Array.setIfInBounds_comm _ _ d];exact A.2.2
  subst d;exact U.wpOp hi l ⟨fun _=>l,H⟩
def s8{id a}{w:UN}(S:UN->Prop)(L)(K:P.follows .mixedOrders=true)(l:S w.drew)(h:S w.drew->bj P .any ops Q S L ops.size (Array.replicate ops.size false) a w.drew):(Code.region id ops true).wp P Q a w:=
 wp_region_any K (h l).any
def bj.step{i o f W a w}(u:Ya md ops W=[i])(m:ops[i]?=Ts o)(h:∀b:Act->UN->Prop,Shut (∀a w,(i≠L->S w)->bj P md ops Q S L f (W.setIfInBounds i true) a w->b a w)->if Region.wanted o (yielded ops a.tmps)=true then Oper.wp P o a w b Q else b (a.put o.dst undef) w):bj P md ops Q S L (f+1) W a w:=
 ⟨fun d=>(by rw[u]at d;cases d),fun j c=>(by
  rw[u,VP]at c;subst c
  exact wpOp_step m fun b H=>h b fun a w l g=>H a w ⟨l,g⟩)⟩
def bj.done{W a w}(u:Ya md ops W=[])(h:Q .normal a w):∀f,bj P md ops Q S L f W a w
 |0=>⟨u,h⟩
 |_+1=>⟨fun _=>h,by rw[u];simp⟩
end
end
def LZ{p:Prop}(h:p:=by
  have v0:=Uc V D 0 _ _ _ HRV;refine P1 ((t.drop long).take m) fun inn hinn=>P1 ((t.drop long).drop m) fun rest hrest=>?_;rw[hinn]at HBI HLI;rw[hrest]at HBR HLRS;by_cases h48:cn=48
  .subst h48;rw[show((48:Nat):Int)=48 from rfl];have HGS:=Tn (wJ (d:=d) HKC HLR hbig S8 HC);rw[hinn,hrest,HLI.out]at HGS;clear hinn hrest eg HQ1 q1;refine P1 V.heap.size fun base hbase=>have HDB:Hid (D<base):=Tn (by rw[<-hbase];exact(UE.1 HRV).1);?_;go_wp2_with fail;clear v0;go_loopw [11,5] (fun v r5 wr=>∃(rem:au)(acc:List (aQ×bU))(f:Nat)(u:UV),SR=r5/\aJ w0 v rem/\wr.heap[D]?=Ts (Tq #[Ti Tl 48,zz,u] 245 (0,0))/\kf base u wr acc/\nH (dh d) [] m inn=nH (dh d) (acc.map (·.1)) f rem/\rem.length<=f/\acc.length+rem.length<=m/\base<=wr.heap.size/\aq w wr) (fun v _ _=>OG v)
   case atStart=>exact⟨inn,[],m,_,rfl,HBI,HRV,kf.nil _ _,rfl,Zao,by rw[HLI.out];simp,by rw[hbase];exact UY _,HEV⟩
   case round=>
    obtain⟨rem,acc,f,u,rfl,hbv,hrow,hacc,hgk,hf,hm2,hbw,hE⟩:=hrel;obtain⟨ra,rc,rfl,hrc1,hrc2,hrb⟩:=hbv;have HBV:Hid (aJ w0 (Tm ra rem.length rc) rem):=Tn ⟨_,_,rfl,hrc1,hrc2,hrb⟩;refine P5 hrow hacc hgk hE fun HROW HACC HGK HE=>?_;clear hrow hacc hgk hE hrb;refine P1 acc.length fun A hA=>have HA:=Tn hA;?_;rw[hA]at hm2;obtain⟨ua,uc,hu,huc1,huc2,hus,huw,hui⟩:=HACC.out.done hA;subst hu;clear hA;cases rem with
    |nil=>
     have HGN:Hid (nH (dh d) [] m inn= .ok (acc.map (·.1))):=Tn (by rw[HGK.out,BU]);have HG:Hid (dh (d+1) (c::t)= .ok (.mk 48 [] (acc.map (·.1)),rest)):=Tn (by rw[HGS.out,HGN.out]);have hr1:=HROW.out;have hset:=bx hr1 hDw HE (Ti Tl 48) (zz) (Tm ua A uc);refine PF wr D (Ti Tl 48) (zz) (Tm ua A uc) fun V6 hV6=>?_;rw[hV6]at hset;refine P5 hset hV6 huw hui fun HST HV6 HUW HUI=>PK hr1 fun e0 e1 e2=>PL hr1 fun g0 g1 g2=>?_;clear hr1 hset hV6 hus huw hui;go_wp2_with fail;rw[HV6.out];refine PK HST.1 fun q0 q1 q2=>VC (v:=UW #[UT #[Ti Tl 48,zz,Tm ua A uc],SR,Ti Tl 0]) QY rfl (lH.yes (x:=⟨48,U8,0,0,ua,A,uc⟩) HG HST.2 ?_ HBR);intro w2 hw2;have hz6:V6.heap.size=wr.heap.size:=RJ;have hin:∀k,ta base wr.heap.size k->w2.heap[k]?=wr.heap[k]? :=fun k hk=>by
      have hk1:base<=k:=hk.1;have hk2:k<wr.heap.size:=hk.2;have hdb:=HDB.out;have hdd:=HD.out;have hne:¬k=D:=Ph;rw[hw2 k ⟨Ph,Ph⟩,<-HV6.out,Below.heap_setCell _ _ _ _ hne,Below.heap_setCell _ _ _ _ hne,Below.heap_setCell _ _ _ _ hne]
     rw[bK];exact⟨rfl,rfl,UY _,VF _,aY.nil _ _,by rw[VR,HA.out],XP,huc2,xf (HUW w2 hin) fun p hp=>HUI.out p hp w2 hin⟩
    |cons c1 t1=>
     refine P1 t1.length fun T1 hT1'=>have HT1:=Tn hT1';?_;simp only[Up]at hf hm2 hrc1 HBV⊢;rw[hT1']at hf hm2 hrc1 HBV⊢;obtain⟨f,rfl⟩:∃f',f=f'+1:=⟨f-1,Ph⟩;refine P1 wr.heap.size fun Y hY=>P1 (wr.alloc (Tq #[Ti Tl 0,zz,zz] 245)) fun Z0 hZ0=>have HEZ0:=Tn (show aq wr Z0 by rw[<-hZ0];exact af P0 _);have HYZ:Hid (Z0.heap[Y]?=Ts (Tq #[Ti Tl 0,zz,zz] 245 (0,0))):=Tn (PP hZ0 hY);have HZS:Hid (Z0.heap.size=Y+1):=Tn (by rw[<-hZ0,Ud,hY]);P4 (HIH (c1::t1) _ w0 Z0 (HKW.ext (aa HE HEZ0)) (by have:=HBV.out;rw[<-hT1',<-Up (a:=c1)]at this;exact this) (aa HEW (aa HE HEZ0)) (by rw[Up,hT1'];omega)) hY fun HGET HY=>?_;rw[Up,hT1']at HGET;clear hus huw hui hT1';go_upto_region 23 with fail;(try rw[hZ0]);(try rw[hY]);clear hZ0 hY;go_wp2_with fail;refine HGET.out.mono ?_;rintro e Z1⟨y,v,k,rfl,hE1,hres⟩;have HE1:=Tn hE1;have HYZ1:Hid (Z1.heap[Y]?=Ts (Tq #[Ti Tl 0,zz,zz] 245 (0,0))):=Tn ((hE1.block Y (UE.1 HYZ).1).trans HYZ);clear hE1 HGET;cases hgi:dh d (c1::t1)with
     |error x=>
      rw[hgi]at hres;obtain⟨hy0,rfl,rfl⟩:=hres;obtain rfl:y=UT #[Ti Tl 0,zz,zz]:=hy0;have hx0:(k !=0)=true:=by rcases rB hgi with rfl|rfl<;>rfl
      have HG:Hid (dh (d+1) (c::t)= .error 71):=Tn (by rw[HGS.out,HGK.out,M8 Pm hgi]);clear hgi;have hy1:=HYZ1.out;refine PK hy1 fun y0 y1 y2=>PL hy1 fun f0 f1 f2=>PF Z1 Y (Ti Tl 0) (zz) (zz) fun Z2 hZ2=>have hy3:=bx (w:=wr) hy1 Zah (aa HEZ0 HE1) (Ti Tl 0) (zz) (zz);?_;rw[hZ2]at hy3;have HE2:=Tn hy3.2;have HR2':Hid (Z2.heap[D]?=Ts (Tq #[Ti Tl 48,zz,Tm ua A uc] 245 (0,0))):=Tn ((HE2.block D (UE.1 HROW).1).trans HROW);refine P4 (aa HE HE2) hZ2 fun HEX HZ2=>?_;clear hy1 hy3 hZ2;go_upto_region 24 with fail;(try rw[HZ2.out]);clear y0 y1 y2 f0 f1 f2;have hr1:=HR2'.out;have hset:=bx hr1 hDw HEX (Ti Tl 0) (zz) (zz);refine PF Z2 D (Ti Tl 0) (zz) (zz) fun V hV=>?_;rw[hV]at hset;refine P4 hset hV fun HST HV=>PK hr1 fun e0 e1 e2=>PL hr1 fun g0 g1 g2=>?_;clear hr1 hset hV;go_wp2_with fail;rw[HV.out];exact PK HST.1 fun q0 q1 q2=>VC (v:=UW #[iy,zz,Ti Tl 71]) Pv rfl (lH.no HG HST.2)
     |ok yr=>
      obtain⟨it,r⟩:=yr;rw[hgi]at hres;obtain⟨rfl,⟨x,rfl,hin⟩,hbv⟩:=hres;have HGK2:Hid (nH (dh d) [] m inn=nH (dh d) ((acc++[(it,x)]).map (·.1)) f r):=Tn (by rw[HGK.out,Lq Pm hgi,WK];rfl);have hrl:=pz hgi;rw[Up,HT1.out]at hrl;refine P4 hin hbv fun HIN HBV2=>?_;obtain⟨xt,xba,xbl,xbc,xla,xll,xlc⟩:=x;clear hgi hin hbv;have hy1:=HYZ1.out;refine PK hy1 fun y0 y1 y2=>PL hy1 fun f0 f1 f2=>PF Z1 Y (Ti Tl xt) (Tm xba xbl xbc) (Tm xla xll xlc) fun Z2 hZ2=>have hy3:=bx (w:=wr) hy1 Zah (aa HEZ0 HE1) (Ti Tl xt) (Tm xba xbl xbc) (Tm xla xll xlc);?_;rw[hZ2]at hy3;refine P4 hy3.2 hy3.1 fun HE2 HY3=>have HS2:Hid (Z2.heap.size=Z1.heap.size):=Tn (by rw[<-hZ2];simp[XY]);have HH2:Hid (∀k,k≠Y->Z2.heap[k]?=Z1.heap[k]?):=Tn (fun k hk=>by rw[<-hZ2,Below.heap_setCell _ _ _ _ hk,Below.heap_setCell _ _ _ _ hk,Below.heap_setCell _ _ _ _ hk]);have HR2':Hid (Z2.heap[D]?=Ts (Tq #[Ti Tl 48,zz,Tm ua A uc] 245 (0,0))):=Tn ((HE2.block D (UE.1 HROW).1).trans HROW);have HA2:=Tn (HACC.ext HE2);have HO2:Hid (Z2.ownsRow base 245 3 (Tm ua A uc) A (bh acc)):=Tn (by have:=HA2.out.own;rw[HA.out]at this;exact this);have hbz:base<=Z2.heap.size:=VG hbw HE2.size;have HZ2:=Tn hZ2;?_;clear hy1 hy3 hZ2;unfold bw;simp only;go_upto_region 24 with fail;(try rw[HZ2.out]);clear y0 y1 y2 f0 f1 f2;have d2:=Uc Z2 D 2 _ _ _ HR2';refine PK HY3 fun p0 p1 p2=>?_;go_upto_region 26 with fail;obtain⟨i0,hi,hz0,hz1,hz2⟩:=WN uG
      go_wp2_with (
             at_builtin
             refine wpList_append_lies _ rfl _ _ 243 rfl base 245 i0 _ 3 56 underlying243 hi hz0 hz1 hz2 rfl Pi _ _ _ rfl (HO2.alloc _) ⟨Z2.heap.size,0,U8⟩ 1 1 [Ti Tl xt,Tm xba xbl xbc,Tm xla xll xlc] rfl rfl (cQ _ _ _) Pu Pi Pr Ph Q9 _ rfl ?_
             intro g3 cap3 Z3 hown3 hgrow3 hat3 hlt3
             refine P3 hown3 hgrow3 hat3 fun HO3 HG3 HAT3=>?_
             have hr3:=((HA2.grew hgrow3).block D (UE.1 HR2').1 (fun e=>by have e2:base<=D:=e;have:=HDB.out;omega)).trans HR2'
             have HR3':=Tn hr3
             have d3:=Uc Z3 D 2 _ _ _ hr3
             have gg3:=VQ Z3 D 2 _ _ hr3
             clear hown3 hgrow3 hat3 hlt3 hr3)
      have hF3:=HA2.out.grew HG3;have hF4:Fr (fun k=>k=D) Z3 (Z3.setCell ⟨D,2,U8⟩ (Tm (Ts ⟨g3,0,U8⟩) (A+1) cap3)):=Uz _ ⟨D,2,U8⟩ _ rfl;refine P4 hF3 hF4 fun HF3 HF4=>?_;clear hF3 hF4;go_roundw
      case rel=>
       refine⟨r,acc++[(it,⟨xt,xba,xbl,xbc,xla,xll,xlc⟩)],f,Tm (Ts ⟨g3,0,U8⟩) (A+1) cap3,rfl,HBV2,(VE Z3 D 2 _ _ _ HR3').trans Pm,?_,HGK2.out,Ph,by rw[Uo,WJ,HA.out];omega,VG hbz (VG HF3.size HF4.size),?_⟩
       .refine(HA2.snoc (p:=(it,⟨xt,xba,xbl,xbc,xla,xll,xlc⟩)) HA ?_ HO3 HG3 HAT3).fr HF4 (fun k hk=>by have e':k=D:=hk;have:=HDB.out;omega);refine HIN.out.move (fun k hk=>HH2.out k (fun e=>by have:=hk.1;have:=HZS.out;omega)) (fun k hk=>?_);have h1:=hk.1;have h2:=hk.2;have h3:=HZS.out;have h4:=HS2.out;refine⟨by have:=HY.out;omega,Ph,fun e=>?_⟩;have:=HACC.out.own.lt k (by exact e);have:=HY.out;omega
       have h1:=aa HE HE2;have hdb:=HDB.out;have hdd:=HD.out;exact(((Uh (S:=fun _=>False) h1).onto HF3 (fun i hi e=>by have e':base<=i:=e;omega)).onto HF4 (fun i hi e=>Qh)).ext (fun _ _ h=>h)
      case measure=>
       obtain⟨a9,c9,rfl,_⟩:=HBV2.out;simp[OG];omega
  have ht:((cn:Int) !=48)=true:=by simp;omega
  have HGL:=Tn (sI (d:=d) HKC HLR hbig S8 (by rw[HC.out];exact h48));rw[hinn,hrest,HC.out]at HGL;clear hinn hrest;go_wp2_with fail
  refine(show VB UB KF #[SI] V (bM (U1 (jp (cn:Int) inn)) V)from by
   rw[<-HKF.out]
   exact wh (cn:Int) HKN inn _ V (HBI.ext (aa HEW HEV)) RF).mono ?_
  rintro e V4⟨rfl,hE4⟩;have HE4:=Tn (aa HEV hE4);have HR4:Hid (V4.heap[D]?=Ts (Tq #[Ti Tl (cn:Int),zz,zz] 245 (0,0))):=Tn ((hE4.block D (UE.1 HRV).1).trans HRV);clear hE4 eg v0 q1;cases hkb:jp (cn:Int) inn with
  |false=>
   have HG:Hid (dh (d+1) (c::t)= .error 71):=Tn Sv;clear hkb;have hr1:=HR4.out;have hset:=bx hr1 hDw HE4 (Ti Tl 0) (zz) (zz);refine PF V4 D (Ti Tl 0) (zz) (zz) fun V hV=>?_;rw[hV]at hset;refine P4 hset hV fun HST HV=>PK hr1 fun e0 e1 e2=>PL hr1 fun g0 g1 g2=>?_;clear hr1 hset hV;go_wp2_with fail;rw[HV.out];exact PK HST.1 fun q0 q1 q2=>VC (v:=UW #[iy,zz,Ti Tl 71]) Pv rfl (lH.no HG HST.2)
  |true=>
   have HG:Hid (dh (d+1) (c::t)= .ok (.mk (cn:Int) inn [],rest)):=Tn Sv;clear hkb;go_wp2_with fail;refine(nh inn _ _ (HBI.ext (aa HEW HE4)) RF).mono ?_;rintro e V5⟨v5,rfl,hown,hE5⟩;have hr5:=(hE5.block D (UE.1 HR4).1).trans HR4;have HHS:Hid (w.heap.size<=V4.heap.size):=Tn HE4.out.size;have HDL:Hid (D<V4.heap.size):=Tn (UE.1 HR4).1;rw[HLI.out]at hown;obtain⟨a5,c5,rfl,hc5,hcm5,hb5⟩:=fQ HLI hown;have hp1:(V5.setCell ⟨D,1,U8⟩ (Tm a5 m c5)).heap[D]?=Ts (Tq #[Ti Tl (cn:Int),Tm a5 m c5,zz] 245 (0,0)):=(VE V5 D 1 _ _ _ hr5).trans Pm;have hE51:aq w (V5.setCell ⟨D,1,U8⟩ (Tm a5 m c5)):=((Uh (S:=fun _=>False) (aa HE4 hE5)).onto (Uz (S:=fun k=>k=D) V5 ⟨D,1,U8⟩ _ rfl) (fun i hi e=>Qh)).ext (fun _ _ h=>h);have hset:=bx hp1 hDw hE51 (Ti Tl (cn:Int)) (Tm a5 m c5) (zz);refine P1 ((((V5.setCell ⟨D,1,U8⟩ (Tm a5 m c5)).setCell ⟨D,0,U8⟩ (Ti Tl (cn:Int))).setCell ⟨D,1,U8⟩ (Tm a5 m c5)).setCell ⟨D,2,U8⟩ (zz)) fun V6 hV6=>?_;rw[hV6]at hset;refine P5 hset hV6 hown hb5 fun HST HV6 HOWN HB5=>PK hr5 fun e0 e1 e2=>PL hr5 fun g0 g1 g2=>?_;clear hown hE5 hr5 hb5 hp1 hE51 hset hV6;go_wp2_with fail;rw[HV6.out];refine PK HST.1 fun q0 q1 q2=>VC (v:=UW #[UT #[Ti Tl (cn:Int),Tm a5 m c5,zz],SR,Ti Tl 0]) QY rfl (lH.yes (x:=⟨(cn:Int),a5,m,c5,U8,0,0⟩) HG HST.2 ?_ HBR);intro w2 hw2;rw[bK];refine⟨rfl,HLI.symm,by rw[HLI.out];exact hc5,hcm5,?_,rfl,UY _,VF _,SF⟩;refine Bj HOWN HB5 fun k h1 h2=>have hz6:V6.heap.size=V5.heap.size:=RJ;have hdl:=HDL.out;have hhs:=HHS.out;have hne:¬k=D:=Ph;?_
   rw[hw2 k ⟨Ph,Ph⟩,<-HV6.out,Below.heap_setCell _ _ _ _ hne,Below.heap_setCell _ _ _ _ hne,Below.heap_setCell _ _ _ _ hne,Below.heap_setCell _ _ _ _ hne]):p:=h
def aa5(d)(y:d<=100)(ih:∀k,k<d->FV k):FV d:=by
 intro s v w0 w H hv hEw hl;obtain⟨a,C,rfl,hnC,hCm,hb⟩:=hv;refine P4 hb hEw fun HBW HEW=>P1 w.heap.size fun D hD=>P1 (w.alloc (Tq #[Ti Tl 0,zz,zz] 245)) fun N F=>have B:=Tn (show aq w N by rw[<-F];exact af P0 _);have W:Hid (N.heap[D]?=Ts (Tq #[Ti Tl 0,zz,zz] 245 (0,0))):=Tn (PP F hD);have hDw:w.heap.size<=D:=Ph;P3 hD (H.ext B) H fun HD HK0 HKW=>?_;clear hb hEw H;cases s with
 |nil=>
  clear ih;go_enter func210,ntmps210;go_upto_region 1 with fail;try rw[F]
  try rw[hD]
  clear F hD;have hr1:=W.out;have hset:=bx hr1 hDw B (Ti Tl 0) (zz) (zz);refine PF N D (Ti Tl 0) (zz) (zz) fun V hV=>?_;rw[hV]at hset;refine P4 hset hV fun HST HV=>PK hr1 fun e0 e1 e2=>PL hr1 fun g0 g1 g2=>?_;clear hr1 hset hV;go_wp2_with fail;rw[HV.out];exact PK HST.1 fun q0 q1 q2=>VC (v:=UW #[iy,zz,Ti Tl 70]) Pv rfl (lH.no (vJ d) HST.2)
 |cons c t=>
  obtain⟨g,off,rfl,ac⟩:=HBW.out 0 c rfl;rw[YF]at ac;refine P1 t.length fun T hT=>?_;simp only[Up]at hl hnC⊢;rw[hT]at hl hnC⊢;have HT:=Tn hT;have hc1:=ae (ae ac HEW) B;clear ac hT;have hcn:c.toNat<256:=c.toNat_lt;refine P1 c.toNat fun cn U=>?_;rw[U]at hc1 hcn;have HC:=Tn U;clear U;go_enter func210,ntmps210;go_upto_region 1 with fail;try rw[F]
  try rw[hD]
  clear F;go_wp2_with fail;refine P2 (Cb (cn:Int) _ HK0) fun W1 hE1=>P3 (aa B hE1) ((hE1.block D (UE.1 W).1).trans W) (HK0.ext hE1) fun HE1 J HK1=>?_;clear hE1 hc1;refine P1 W1.heap.size fun E z=>have Z:Hid (D<E):=Tn (by rw[<-z];exact(UE.1 J).1);?_;cases r:cC (cn:Int)with
  |false=>
   have HG:=Tn (qV (d:=d) (c:=c) (t:=t) (by rw[HC.out];exact r));rw[show lS (cn:Int)=UT #[Ti Tl 0,.nilFunc] by unfold lS;rw[r];rfl];clear r ih z;go_upto_region 4 with fail;refine P1 (W1.alloc (Tq #[Ti Tl 0,.nilFunc] 341)) fun I Y=>P4 (show aq w I by rw[<-Y];exact af HE1 _) (((show aq W1 I from QQ).block D (UE.1 J).1).trans J) fun HE2 l=>?_;(try rw[Y]);clear Y;have hr1:=l.out;have hset:=bx hr1 hDw HE2 (Ti Tl 0) (zz) (zz);exact PF I D (Ti Tl 0) (zz) (zz) fun V hV=>TZ
  |true=>
   have HKN:=Tn r;have HKC:Hid (cC c.toNat=true):=Tn (by rw[HC.out];exact r);rw[show lS (cn:Int)=UT #[Ti Tl (cn:Int),.func (.func (mx (cn:Int))) #[] #[]] by unfold lS;rw[r];rfl];have eg:=Iz (cn:Int);refine P1 (mx (cn:Int)) fun KF ad=>?_;rw[ad]at eg⊢;have HKF:=Tn ad;refine P1 (W1.alloc (Tq #[Ti Tl (cn:Int),.func (.func KF) #[] #[]] 341)) fun I Y=>P4 (show aq w I by rw[<-Y];exact af HE1 _) (((show aq W1 I from QQ).block D (UE.1 J).1).trans J) fun HE2 l=>?_;have k0:I.cell? ⟨E,0,U8⟩=Ts (Ti Tl (cn:Int)):=by rw[<-Y,<-z];simp[go_sem]
   have k1:I.cell? ⟨E,1,U8⟩=Ts (.func (.func KF) #[] #[]):=by rw[<-Y,<-z];simp[go_sem]
   refine P3 k0 k1 (aU.ext HK1 (show aq W1 I from QQ)) fun HK0' HK1' HK2=>?_;clear r ad k0 k1;go_upto_region 4 with fail;(try rw[Y]);(try rw[z]);clear Y z;cases d with
   |zero=>
    have HG:Hid (dh 0 (c::t)= .error 71):=Tn rfl;clear ih eg;have hr1:=l.out;have hset:=bx hr1 hDw HE2 (Ti Tl 0) (zz) (zz);exact PF I D (Ti Tl 0) (zz) (zz) fun V hV=>TZ
   |succ d=>
    have HIH:=Tn (ih d Ph);clear ih;go_upto_region 6 with fail;have HBT:Hid (aY w0 (Ts ⟨g,off+1,U8⟩) t):=Tn (by have:=HBW.out.drop 1;exact this);by_cases hT0:T=0
    .subst hT0;obtain rfl:t=[]:=VA HT;have HG:=Tn (uT (d:=d) (t:=[]) HKC rfl);clear eg;by_cases hC1:C=1
     .subst hC1;go_wp2_with fail;refine(qi [] _ _ ⟨_,_,rfl,VF _,Pr,aY.nil _ _⟩ (VF _)).mono ?_;rintro e O⟨rfl,j⟩;refine P4 (aa HE2 j) ((j.block D (UE.1 l).1).trans l) fun Id b=>?_;rw[vd (t:=[]) rfl];clear j;exact TU
     have hC2:2<=C:=by omega
     go_wp2_with fail;refine(qi [] _ _ ⟨_,_,rfl,VF _,by unfold VL at hCm⊢;omega,aY.nil _ _⟩ (VF _)).mono ?_;rintro e O⟨rfl,j⟩;refine P4 (aa HE2 j) ((j.block D (UE.1 l).1).trans l) fun Id b=>?_;rw[vd (t:=[]) rfl];clear j;exact TU
    have hT1:1<=T:=Ph;go_wp2_with fail;refine(qi t _ _ ⟨_,_,by rw[HT.out],S8,Ph,HBT.ext (aa HEW HE2)⟩ S8).mono ?_;rintro e O⟨rfl,j⟩;refine P5 (aa HE2 j) ((j.block D (UE.1 l).1).trans l) (ae HK0' j) (ae HK1' j) fun Id b ab HQ1=>?_;clear j;cases o:gU t with
    |error x=>
     have hx:=CK o;rw[vd o];have HG:=Tn (uT (d:=d) HKC o);have hx0:(x !=0)=true:=by rcases hx with rfl|rfl<;>rfl
     clear o hx eg;have hr1:=b.out;have hset:=bx hr1 hDw Id (Ti Tl 0) (zz) (zz);refine PF O D (Ti Tl 0) (zz) (zz) fun V hV=>?_;rw[hV]at hset;refine P4 hset hV fun HST HV=>PK hr1 fun e0 e1 e2=>PL hr1 fun g0 g1 g2=>?_;clear hr1 hset hV;go_wp2_with fail;rw[HV.out];exact PK HST.1 fun q0 q1 q2=>VC (v:=UW #[iy,zz,Ti Tl x]) Pv rfl (lH.no HG HST.2)
    |ok p=>
     obtain⟨m,long⟩:=p;obtain⟨hl1,hl3,R,K⟩:=Il o;rw[HT.out]at R;rw[abI o];have HLR:=Tn o;clear o;by_cases hbig:8192<1+long+m
     .have HG:=Tn (Dc (d:=d) HKC HLR hbig);have hb1:decide (8192<(1:Int)+(long:Int)+(m:Int))=true:=Pp;clear eg;have hr1:=b.out;have hset:=bx hr1 hDw Id (Ti Tl 0) (zz) (zz);exact PF O D (Ti Tl 0) (zz) (zz) fun V hV=>TZ
     by_cases hsh:T-long<m
     .have HG:=Tn (vx (d:=d) HKC HLR hbig (by rw[HT.out];exact hsh));clear eg;by_cases hz:C=1+long
      .subst hz;exact TU
      have hz1:¬C=1+long:=hz;exact TU
     have HBD:Hid (aY w0 (Ts ⟨g,off+(1+long),U8⟩) (t.drop long)):=Tn (by have:=HBW.out.drop (1+long);rw[show(c::t).drop (1+long)=t.drop long by rw[Nat.add_comm,List.drop_succ_cons]]at this;exact this);have hTl:m<=T-long:=Ph;by_cases hz:C=1+long
     .obtain rfl:T=long:=by omega
      obtain rfl:m=0:=Ph;subst hz;have e0:=Uc O D 0 _ _ _ b;have g0:=VQ O D 0 _ _ b;have q0:=ab.out;have HLI:Hid (((t.drop T).take 0).length=0):=Tn Qm;have HLRS:Hid (((t.drop T).drop 0).length=0):=Tn Qn;have HBI:Hid (aJ w0 (Tm (Ts ⟨g,off,U8⟩) 0 (0)) ((t.drop T).take 0)):=Tn ⟨_,_,by rw[HLI.out],RF,Ph,by rw[VA HLI.out];exact aY.nil _ _⟩;have HBR:Hid (aJ w0 (Tm (Ts ⟨g,off,U8⟩) (0) (0)) ((t.drop T).drop 0)):=Tn ⟨_,_,by rw[HLRS.out],Za9,Ph,by rw[VA HLRS.out];exact aY.nil _ _⟩;refine P1 ((O.setCell ⟨D,0,U8⟩ (Ti Tl (cn:Int))).drew) fun V hV=>have q:Hid (Fr (fun k=>k=D) O V):=Tn QI;have HEV:=Tn (((Uh (S:=fun _=>False) Id).onto q (fun i hi e=>Qh)).ext (fun _ _ h=>h));have HRV:Hid (V.heap[D]?=Ts (Tq #[Ti Tl (cn:Int),zz,zz] 245 (0,0))):=Tn QU;have q1:=(q.cell (p:=⟨E,1,U8⟩) (jm HQ1) (fun e=>Rj)).trans HQ1;have HKV:=Tn (HKW.ext HEV);?_;go_upto_region 15 with fail;go_region
      rw[hV];clear hV q0 e0 g0;skip
      have v0:=Uc V D 0 _ _ _ HRV;refine P1 ((t.drop T).take 0) fun inn hinn=>P1 ((t.drop T).drop 0) fun rest hrest=>?_;rw[hinn]at HBI HLI;rw[hrest]at HBR HLRS;by_cases h48:cn=48
      .subst h48;rw[show((48:Nat):Int)=48 from rfl];have HGS:=Tn (wJ (d:=d) HKC HLR hbig S8 HC);rw[hinn,hrest,HLI.out]at HGS;clear hinn hrest eg HQ1 q1;refine P1 V.heap.size fun base hbase=>have HDB:Hid (D<base):=Tn (by rw[<-hbase];exact(UE.1 HRV).1);?_;go_wp2_with fail;clear v0;go_loopw [11,5] (fun v r5 wr=>∃(rem:au)(acc:List (aQ×bU))(f:Nat)(u:UV),Tm (Ts ⟨g,off,U8⟩) (0) (0)=r5/\aJ w0 v rem/\wr.heap[D]?=Ts (Tq #[Ti Tl 48,zz,u] 245 (0,0))/\kf base u wr acc/\nH (dh d) [] 0 inn=nH (dh d) (acc.map (·.1)) f rem/\rem.length<=f/\acc.length+rem.length<=0/\base<=wr.heap.size/\aq w wr) (fun v _ _=>OG v)
       case atStart=>exact⟨inn,[],0,_,rfl,HBI,HRV,kf.nil _ _,rfl,Zao,by rw[HLI.out];simp,by rw[hbase];exact UY _,HEV⟩
       obtain⟨rem,acc,f,u,rfl,hbv,hrow,hacc,hgk,hf,hm2,hbw,hE⟩:=hrel;obtain⟨ra,rc,rfl,hrc1,hrc2,hrb⟩:=hbv;have HBV:Hid (aJ w0 (Tm ra rem.length rc) rem):=Tn ⟨_,_,rfl,hrc1,hrc2,hrb⟩;refine P5 hrow hacc hgk hE fun HROW HACC HGK HE=>?_;clear hrow hacc hgk hE hrb;refine P1 acc.length fun A hA=>have HA:=Tn hA;?_;rw[hA]at hm2;obtain⟨ua,uc,hu,huc1,huc2,hus,huw,hui⟩:=HACC.out.done hA;subst hu;clear hA;cases rem with
       |nil=>
        have HGN:Hid (nH (dh d) [] 0 inn= .ok (acc.map (·.1))):=Tn (by rw[HGK.out,BU]);have HG:Hid (dh (d+1) (c::t)= .ok (.mk 48 [] (acc.map (·.1)),rest)):=Tn (by rw[HGS.out,HGN.out]);have hr1:=HROW.out;have hset:=bx hr1 hDw HE (Ti Tl 48) (zz) (Tm ua A uc);refine PF wr D (Ti Tl 48) (zz) (Tm ua A uc) fun V6 hV6=>?_;rw[hV6]at hset;refine P5 hset hV6 huw hui fun HST HV6 HUW HUI=>PK hr1 fun e0 e1 e2=>PL hr1 fun g0 g1 g2=>?_;clear hr1 hset hV6 hus huw hui;go_wp2_with fail;rw[HV6.out];refine PK HST.1 fun q0 q1 q2=>VC (v:=UW #[UT #[Ti Tl 48,zz,Tm ua A uc],Tm (Ts ⟨g,off,U8⟩) (0) (0),Ti Tl 0]) QY rfl (lH.yes (x:=⟨48,U8,0,0,ua,A,uc⟩) HG HST.2 ?_ HBR);intro w2 hw2;have hz6:V6.heap.size=wr.heap.size:=RJ;have hin:∀k,ta base wr.heap.size k->w2.heap[k]?=wr.heap[k]? :=fun k hk=>by
         have hk1:base<=k:=hk.1;have hk2:k<wr.heap.size:=hk.2;have hdb:=HDB.out;have hdd:=HD.out;have hne:¬k=D:=Ph;rw[hw2 k ⟨Ph,Ph⟩,<-HV6.out,Below.heap_setCell _ _ _ _ hne,Below.heap_setCell _ _ _ _ hne,Below.heap_setCell _ _ _ _ hne]
        rw[bK];exact⟨rfl,rfl,UY _,VF _,aY.nil _ _,by rw[VR,HA.out],XP,huc2,xf (HUW w2 hin) fun p hp=>HUI.out p hp w2 hin⟩
       |cons c1 t1=>
        rw[Up]at hm2;omega
      have ht:((cn:Int) !=48)=true:=by simp;omega
      have HGL:=Tn (sI (d:=d) HKC HLR hbig S8 (by rw[HC.out];exact h48));rw[hinn,hrest,HC.out]at HGL;clear hinn hrest;go_wp2_with fail
      refine(show VB UB KF #[Tm (Ts ⟨g,off,U8⟩) 0 (0)] V (bM (U1 (jp (cn:Int) inn)) V)from by
       rw[<-HKF.out]
       exact wh (cn:Int) HKN inn _ V (HBI.ext (aa HEW HEV)) RF).mono ?_
      rintro e V4⟨rfl,hE4⟩;refine P4 (aa HEV hE4) ((hE4.block D (UE.1 HRV).1).trans HRV) fun HE4 HR4=>?_;clear hE4 eg v0 q1;cases hkb:jp (cn:Int) inn with
      |false=>
       have HG:Hid (dh (d+1) (c::t)= .error 71):=Tn Sv;clear hkb;have hr1:=HR4.out;have hset:=bx hr1 hDw HE4 (Ti Tl 0) (zz) (zz);exact PF V4 D (Ti Tl 0) (zz) (zz) fun V hV=>TZ
      |true=>
       have HG:Hid (dh (d+1) (c::t)= .ok (.mk (cn:Int) inn [],rest)):=Tn Sv;clear hkb;go_wp2_with fail;refine(nh inn _ _ (HBI.ext (aa HEW HE4)) RF).mono ?_;rintro e V5⟨v5,rfl,hown,hE5⟩;have hr5:=(hE5.block D (UE.1 HR4).1).trans HR4;have HHS:=Tn HE4.out.size;have HDL:Hid (D<V4.heap.size):=Tn (UE.1 HR4).1;rw[HLI.out]at hown;obtain⟨a5,c5,rfl,hc5,hcm5,hb5⟩:=fQ HLI hown;have hp1:(V5.setCell ⟨D,1,U8⟩ (Tm a5 0 c5)).heap[D]?=Ts (Tq #[Ti Tl (cn:Int),Tm a5 0 c5,zz] 245 (0,0)):=(VE V5 D 1 _ _ _ hr5).trans Pm;have hE51:aq w (V5.setCell ⟨D,1,U8⟩ (Tm a5 0 c5)):=((Uh (S:=fun _=>False) (aa HE4 hE5)).onto (Uz (S:=fun k=>k=D) V5 ⟨D,1,U8⟩ _ rfl) (fun i hi e=>Qh)).ext (fun _ _ h=>h);have hset:=bx hp1 hDw hE51 (Ti Tl (cn:Int)) (Tm a5 0 c5) (zz);refine P1 ((((V5.setCell ⟨D,1,U8⟩ (Tm a5 0 c5)).setCell ⟨D,0,U8⟩ (Ti Tl (cn:Int))).setCell ⟨D,1,U8⟩ (Tm a5 0 c5)).setCell ⟨D,2,U8⟩ (zz)) fun V6 hV6=>?_;rw[hV6]at hset;refine P5 hset hV6 hown hb5 fun HST HV6 HOWN HB5=>PK hr5 fun e0 e1 e2=>PL hr5 fun g0 g1 g2=>?_;clear hown hE5 hr5 hb5 hp1 hE51 hset hV6;go_wp2_with fail;rw[HV6.out];refine PK HST.1 fun q0 q1 q2=>VC (v:=UW #[UT #[Ti Tl (cn:Int),Tm a5 0 c5,zz],Tm (Ts ⟨g,off,U8⟩) (0) (0),Ti Tl 0]) QY rfl (lH.yes (x:=⟨(cn:Int),a5,0,c5,U8,0,0⟩) HG HST.2 ?_ HBR);intro w2 hw2;rw[bK];refine⟨rfl,HLI.symm,by rw[HLI.out];exact hc5,hcm5,?_,rfl,UY _,VF _,SF⟩;refine Bj HOWN HB5 fun k h1 h2=>have hz6:V6.heap.size=V5.heap.size:=RJ;have hdl:=HDL.out;have hhs:=HHS.out;have hne:¬k=D:=Ph;?_;rw[hw2 k ⟨Ph,Ph⟩,<-HV6.out,Below.heap_setCell _ _ _ _ hne,Below.heap_setCell _ _ _ _ hne,Below.heap_setCell _ _ _ _ hne,Below.heap_setCell _ _ _ _ hne]
     have hz1:¬C=1+long:=hz;by_cases hz2:C=1+long+m
     .subst hz2;obtain rfl:T=long+m:=Ph;have e0:=Uc O D 0 _ _ _ b;have g0:=VQ O D 0 _ _ b;have q0:=ab.out;have HLI:Hid (((t.drop long).take m).length=m):=Tn Qm;have HLRS:Hid (((t.drop long).drop m).length=long+m+1-(1+long)-m):=Tn Qn;have HBI:Hid (aJ w0 (Tm (Ts ⟨g,off+(1+long),U8⟩) m (m)) ((t.drop long).take m)):=Tn ⟨_,_,by rw[HLI.out],RF,Ph,HBD.take m⟩;have HBR:Hid (aJ w0 (Tm (Ts ⟨g,off+(1+long),U8⟩) (long+m+1-(1+long)-m) (0)) ((t.drop long).drop m)):=Tn ⟨_,_,by rw[HLRS.out],Za9,Ph,by rw[VA (HLRS.trans Ph)];exact aY.nil _ _⟩;refine P1 ((O.setCell ⟨D,0,U8⟩ (Ti Tl (cn:Int))).drew) fun V hV=>have q:Hid (Fr (fun k=>k=D) O V):=Tn QI;have HEV:=Tn (((Uh (S:=fun _=>False) Id).onto q (fun i hi e=>Qh)).ext (fun _ _ h=>h));have HRV:Hid (V.heap[D]?=Ts (Tq #[Ti Tl (cn:Int),zz,zz] 245 (0,0))):=Tn QU;have q1:=(q.cell (p:=⟨E,1,U8⟩) (jm HQ1) (fun e=>Rj)).trans HQ1;have HKV:=Tn (HKW.ext HEV);?_;go_upto_region 15 with fail;go_region
      rw[hV];clear hV q0 e0 g0;refine P1 (long+m+1-(1+long)-m) fun X Q=>?_;rw[Q]at HBR HLRS⊢;refine P1 (long+m+1-(1+long)) fun N0 P=>?_;rw[P];refine P1 (1+long+m-(1+long)) fun N1 M=>?_;rw[M];clear Q P M;refine P1 (Tm (Ts ⟨g,off+(1+long),U8⟩) m (m)) fun SI G=>P1 (Tm (Ts ⟨g,off+(1+long),U8⟩) (X) (0)) fun SR L=>?_;rw[G]at HBI⊢;rw[L]at HBR⊢;clear G L;exact LZ
     have hz3:¬C=1+long+m:=hz2;have e0:=Uc O D 0 _ _ _ b;have g0:=VQ O D 0 _ _ b;have q0:=ab.out;have HLI:Hid (((t.drop long).take m).length=m):=Tn Qm;have HLRS:Hid (((t.drop long).drop m).length=T+1-(1+long)-m):=Tn Qn;have HBI:Hid (aJ w0 (Tm (Ts ⟨g,off+(1+long),U8⟩) m (C-(1+long))) ((t.drop long).take m)):=Tn ⟨_,_,by rw[HLI.out],RF,Ph,HBD.take m⟩;have HBR:Hid (aJ w0 (Tm (Ts ⟨g,off+(1+long)+m,U8⟩) (T+1-(1+long)-m) (C-(1+long)-m)) ((t.drop long).drop m)):=Tn ⟨_,_,by rw[HLRS.out],Za9,Ph,HBD.drop m⟩;refine P1 ((O.setCell ⟨D,0,U8⟩ (Ti Tl (cn:Int))).drew) fun V hV=>have q:Hid (Fr (fun k=>k=D) O V):=Tn QI;have HEV:=Tn (((Uh (S:=fun _=>False) Id).onto q (fun i hi e=>Qh)).ext (fun _ _ h=>h));have HRV:Hid (V.heap[D]?=Ts (Tq #[Ti Tl (cn:Int),zz,zz] 245 (0,0))):=Tn QU;have q1:=(q.cell (p:=⟨E,1,U8⟩) (jm HQ1) (fun e=>Rj)).trans HQ1;have HKV:=Tn (HKW.ext HEV);?_;go_upto_region 15 with fail;go_region
     rw[hV];clear hV q0 e0 g0;refine P1 (T+1-(1+long)-m) fun X Q=>?_;rw[Q]at HBR HLRS⊢;refine P1 (C-(1+long)-m) fun CR hCR=>?_;rw[hCR]at HBR⊢;refine P1 (T+1-(1+long)) fun N0 P=>?_;rw[P];refine P1 (C-(1+long)) fun N1 M=>?_;rw[M]at HBI⊢;clear Q hCR P M;refine P1 (Tm (Ts ⟨g,off+(1+long),U8⟩) m (N1)) fun SI G=>P1 (Tm (Ts ⟨g,off+(1+long)+m,U8⟩) (X) (CR)) fun SR L=>?_;rw[G]at HBI⊢;rw[L]at HBR⊢;clear G L;exact LZ
def acK:∀d,d<=100->FV d:=by
 intro d;induction d using Nat.strongRecOn with
 |_ d b=>exact fun y=>aa5 d y fun k hk=>b k hk Ph
def CB{s:au}(h:(dy s).2.2=true):s.length<=64:=by
 unfold dy at h;split at h
 .next h1=>exact(gC.1 h1).1
 split at h
 .have c:jH (s.drop 2) 7 62=true:=h;unfold jH at c;simp only[V7,decide_eq_true_eq,VT]at c;omega
 cases h
def rG(t)(b:au)(l:List aQ):(cy (.mk t b l)).length<=4+b.length+(dW l).length:=by
 have h1:=(ug (b++dW l).length).2;have c:(b++dW l).length=b.length+(dW l).length:=Uo;rw[li];omega
def adY{l:List aQ}{K:Nat}(h:∀y∈l,(cy y).length<=K):(dW l).length<=l.length*K:=by
 induction l with
 |nil=>rw[lZ];simp
 |cons y l b=>
  rw[mE,Uo,Up,Nat.succ_mul];have h1:=h y (.head _);have c:=b fun z d=>h z (.tail _ d);omega
def zB:∀b:au,(dY b).length<=b.length
 |[]=>SE
 |[_]=>SE
 |x::y::t=>by
  rw[dY];split
  .exact UY _
  have:=zB (y::t);simp only[Up]at this⊢;omega
def E9(n):(cy (cS n)).length<=100:=by
 have h:=rG 2 (dY (be 8 n)) [];have c:=zB (be 8 n);rw[aI]at c;rw[lZ,VJ]at h;unfold cS;omega
def Ae{s:au}(h:s.length<=64):(cy (cg s)).length<=100:=by
 have h1:=rG 12 s [];rw[lZ,VJ]at h1;unfold cg;omega
def ng{l:List aQ}{K:Nat}(h:∀y∈l,(cy y).length<=K):(cy (dO l)).length<=4+l.length*K:=by
 have h1:=rG 48 [] l;have c:=adY h;rw[VJ]at h1;unfold dO;omega
def wZ{right:au->Bool}:∀{l met:List au},fU right met l=true->∀s∈l,right s=true
 |[],_,_,s,z=>Zb0
 |x::l,met,h,s,z=>by
  rw[fU]at h;simp only[V7]at h;cases z with
  |head=>exact h.2.1
  |tail _ z=>exact wZ h.2.2 s z
def BP{right:au->Bool}{l:List au}{a b}(h:oQ right l a b=true):(∀s∈l,right s=true)/\l.length<=b:=by
 unfold oQ at h;simp only[V7,decide_eq_true_eq]at h;exact⟨wZ h.1,h.2.2⟩
def zo{s:au}(h:oz s=true):s.length<=64:=by
 unfold oz at h;simp only[V7,decide_eq_true_eq]at h;exact h.2.1
def Az{c}(h:dr c=true):c.issuer.length<=64/\c.subject.length<=64/\(∀s∈c.names,s.length<=64)/\c.names.length<=8/\(∀s∈c.permit,s.length<=64)/\c.permit.length<=8/\c.proms.length<=4:=by
 unfold dr at h;rw[V7]at h;have b:=h.2;split at b
 .cases b
 split at b
 .cases b
 next hb=>
 simp only[WU,not_or,Wh,Bool.not_eq_false,decide_eq_true_eq]at hb;have hi:=zo hb.1;have x:=hb.2.2.2.1;split at b
 .simp only[V7]at b;have A:=BP b.2.2.2.2;have hn:c.names=[]:=by simpa using b.2.1
  exact⟨hi,zo b.1,(by rw[hn];intro s z;cases z),by rw[hn];simp,fun s z=>CB (A.1 s z),A.2,Ph⟩
 simp only[V7]at b;have A:=BP b.2.1;have z:c.subject=[]:=by simpa using b.1
 have N:c.permit=[]:=by simpa using b.2.2.2
 exact⟨hi,by rw[z];simp,fun s z=>(gC.1 (A.1 s z)).1,A.2,(by rw[N];intro s z;cases z),by rw[N];simp,Ph⟩
def iK{c}(h:dr c=true):(cy (jv c)).length<=100000/\(cy (du c)).length<=100000/\(cy (fI c)).length<=100000:=by
 obtain⟨h1,r,A,x,q,o,C⟩:=Az h;have d:∀l:List au,(∀s∈l,s.length<=64)->l.length<=8->(cy (dO (l.map cg))).length<=1000:=fun l t B=>by
  have:=ng (l:=l.map cg) (K:=100) fun y U=>by obtain⟨s,z,rfl⟩:=Wl.1 U;exact Ae (t s z)
  rw[VR]at this;omega
 have j:(cy (kY c.ca)).length<=1000:=by
  have:=rG 1 [if c.ca then 255 else 0] [];rw[lZ]at this;simp only[Up,VJ]at this;unfold kY;omega
 have f:(cy (fI c)).length<=20000:=by
  have:=ng (l:=[eC c.serial,cg c.issuer,cg c.subject,cS c.key,dO (c.names.map cg),eC c.from_,eC c.until_,kY c.ca,eC c.depth,dO (c.permit.map cg)]) (K:=1000) fun y U=>by
   have hb:=fun n=>E9 n;simp only[PD]at U;rcases U with rfl|rfl|rfl|rfl|rfl|rfl|rfl|rfl|rfl|rfl
   .exact Ui
   .exact VG (Ae h1) Pi
   .exact VG (Ae r) Pi
   .exact Ui
   .exact d _ A x
   .exact Ui
   .exact Ui
   .exact j
   .exact Ui
   exact d _ q o
  exact VG this QG
 have b:∀p:gW,(cy (fZ p)).length<=1000:=fun p=>by
  have:=ng (l:=[eC p.log,eC p.at_,cS p.leaf.1,cS p.leaf.2,cS p.sig.e,cS p.sig.s]) (K:=100) fun y U=>by
   simp only[PD]at U;rcases U with rfl|rfl|rfl|rfl|rfl|rfl<;>exact E9 _
  exact VG this QG
 have m:(cy (du c)).length<=50000:=by
  have N:(cy (dO (c.proms.map fZ))).length<=20000:=by
   exact Xl
  have:=ng (l:=[fI c,dO (c.proms.map fZ)]) (K:=20000) fun y U=>by
   exact Zcp
  have u:(cy (du c)).length<=4+2*20000:=this;omega
 refine⟨?_,Ph,Ph⟩;have:=ng (l:=[du c,dO [cS c.sig.e,cS c.sig.s]]) (K:=48000) fun y U=>by
  simp only[PD]at U;rcases U with rfl|rfl
  .have u:=rG 48 [] [fI c,dO (c.proms.map fZ)];have N:(cy (dO (c.proms.map fZ))).length<=20000:=by
    exact Xl
   have g:=ng (l:=[fI c,dO (c.proms.map fZ)]) (K:=20000) fun y U=>by
    exact Zcp
   exact VG g QG
  have g:=ng (l:=[cS c.sig.e,cS c.sig.s]) (K:=100) fun y U=>by
   simp only[PD]at U;rcases U with rfl|rfl<;>exact E9 _
  exact VG g QG
 exact VG this QG
end Go.Proofs.YtjmgalpkbkcmkaaGreatDoor

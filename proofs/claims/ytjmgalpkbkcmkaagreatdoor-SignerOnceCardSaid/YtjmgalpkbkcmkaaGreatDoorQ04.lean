import Derived.Test.YtjmgalpkbkcmkaaGreatDoorQ03
import Derived.Test.YtjmgalpkbkcmkaaGreatDoorCards
import Derived.Test.YtjmgalpkbkcmkaaGreatDoorTie
set_option maxRecDepth 100000
set_option maxHeartbeats 16000000
set_option linter.all false
namespace Go.Proofs.YtjmgalpkbkcmkaaGreatDoor
open Go.RowKit Go.Proofs.Tryz Go.Proofs.YtjmgalpkbkcmkaaGreatDoor.Tryz
open And renaming intro->Xy
open _root_.Array renaming getElem?_eq_getElem->Vy,getElem?_eq_some_iff->UE,replicate_succ->WX,replicate_zero->WY
open Bool renaming and_eq_true->V7,eq_false_iff->Xm,eq_iff_iff->YH,not_eq_false'->YD,not_eq_true'->Wh,or_eq_true->WU,true_and->Wo
open Go renaming Addr->VW,Boxed->VX,Calls->VB,Ending->Xo,Oper->Xd,PanicEntry->XR,Program->Wn,TypeId->WR,Value->UV,World->UN,bodyPost_ret->VC,callsIn_of_wp_marks->YV,callsIn_wide->Vn,frozen_of_row->VQ,heap_setCell_same->VE,info_parts->WN,maxLen->VL,undef->VM,yielded->Xs
open Go.Act renaming put->Ua
open Go.Boxed renaming new->Wt
open Go.Code renaming region->YK
open Go.DataW renaming trod->Yg
open Go.Ending renaming returned->UO
open Go.IntKind renaming i64->Tl,u64->Tt,u8->Uy
open Go.Lib renaming countByte->YY,hasPrefix->Yw,hid->Tn,indexByte->XS,size_eq->YW,toList_data->Yb
open Go.Obj renaming cells->Tq
open Go.Oper renaming semAt_some->ZA
open Go.Proofs renaming enters_of->Vv,intOf->VS
open Go.Proofs.Tryz renaming prog->UB
open Go.Proofs.YtjmgalpkbkcmkaaGreatDoor.Fr renaming drew->Xg,grown->ZG,of_ext->Uh,refl->Z5,setCell->Uz
open Go.Proofs.YtjmgalpkbkcmkaaGreatDoor.cr renaming nil->ZO
open Go.Region renaming noSelect_spec->YQ,wanted->Vr
open Go.Value renaming agg->UT,bool->U1,int->Ti,ownBlock->Vt,pointer->UK,slice->Tm,string->UH,tuple->UW
open Go.World renaming alloc_heap_new->UZ,cell?->Wc,ownsRow_nil->WO,setCell->XY,size_alloc->Ud
open Int renaming eq_ofNat_of_zero_le->WL,toNat_natCast->XU
open List renaming all_eq_true->WE,append_assoc->Ws,append_nil->Ww,append_toArray->Wi,cons_append->Vu,eq_nil_of_length_eq_zero->VA,flatMap_append->Xw,flatMap_cons->Vh,getD_eq_getElem?_getD->Uj,getElem?_append_left->X9,getElem?_append_right->WH,getElem?_eq_getElem->V8,getElem?_eq_some_iff->UU,getElem?_map->VU,getElem?_set_ne->Vl,getElem?_set_self->Vq,getElem?_take->XM,length->Xt,length_append->Uo,length_cons->Up,length_drop->VT,length_map->VR,length_nil->VJ,length_pos_iff->YL,length_singleton->WJ,map_append->WK,map_cons->WI,map_nil->Ym,mem_append->WD,mem_append_left->Xz,mem_cons->VN,mem_cons_of_mem->WW,mem_map->Wl,mem_of_getElem?->Uv,mem_singleton->VP,nil_append->Vd,pairwise_cons->Y2,push_toArray->XF,range->We,size_toArray->WG,take_add_one->Xk,take_length->Yi,take_of_length_le->VD
open List.Pairwise renaming nil->Yk
open List.cons renaming injEq->Yq
open Nat renaming add_mul->ZC,eq_zero_or_pos->Ye,le_of_lt->Yn,le_refl->UY,le_trans->VG,mul_one->XT,not_lt_zero->YG,reduceAdd->VO,reduceSub->YI,zero_add->VY,zero_le->VF
open Option renaming map_some->Wm,none->U8,some->Ts
open Option.some renaming inj->Vm,injEq->Vw
variable {A V W b c d w:World} {G:Value->World->Prop} {P:Program} {S:Nat->Prop} {a:Option Addr} {at':Int} {b1 cap g i j k m n n0 q:Nat} {e t:TypeId} {l ps:List ByteArray} {lab nm p s:ByteArray} {o:Oper} {v x:Value}
section
open Go.Maps
def gr{base j c f}(h:w.ownsRow base e m v n j)(b:v.ownBlock=Ts k)(o:w.heap[k]?=Ts (Tq c t f)):t=e:=by
 rcases h.2 with⟨rfl,_⟩|⟨g,cap,d,rfl,_,l,_⟩
 .simp[Vt]at b
 simp only[Vt,Vw]at b;subst b;rw[l]at o;simp at o;exact o.2.1.symm
def infoRule:(UB.info? 75).map (fun i=>(i.zero,i.size,i.bytes))=Ts (Ts (UT #[UH ⟨#[]⟩,U1 false,zz,Ti Tt 0,Ti Tl 0,Ti Tl 0,Ti Tl 0]),7,80):=Pg
def FC(q:b7×(Option VW×Nat)):List UV:=[UH q.1.name,U1 q.1.allow,Tm q.2.1 q.1.pats.length q.2.2,Ti Tt q.1.keyMin,Ti Tl q.1.lifeMax,Ti Tl q.1.most,Ti Tl q.1.window]
def F6{b off:Nat}{l:List b7}(p:qz w (Ts ⟨b,off,U8⟩) l):∃g:List (Option VW×Nat),g.length=l.length/\∀(j:Nat)(r:b7),l[j]?=Ts r->∃e,g[j]?=Ts e/\
  w.cell? ⟨b,off+j*7+2,U8⟩=Ts (Tm e.1 r.pats.length e.2)/\r.pats.length<=e.2/\e.2<=VL/\js w e.1 r.pats:=by
 classical
 let P:=fun(j:Nat)(e:Option VW×Nat)=>∀r,l[j]?=Ts r->w.cell? ⟨b,off+j*7+2,U8⟩=Ts (Tm e.1 r.pats.length e.2)/\r.pats.length<=e.2/\e.2<=VL/\js w e.1 r.pats
 have d:∀j,∃e,P j e:=fun j=>by
  cases u:l[j]? with
  |none=>exact⟨(U8,0),fun r h=>by rw[u]at h;cases h⟩
  |some r=>
   obtain⟨o,m,f,_,_,⟨pa,pc,q2,l1,l2,c⟩,_⟩:=p j r u;cases f;exact⟨(pa,pc),fun q h=>by rw[u]at h;cases h;exact⟨q2,l1,l2,c⟩⟩
 refine⟨(We l.length).map fun j=>(d j).choose,Pm,fun j r u=>⟨(d j).choose,?_,(d j).choose_spec r u⟩⟩;rw[VU,List.getElem?_range (UU.1 u).1];rfl
def DK{b off:Nat}{l:List b7}(p:qz w (Ts ⟨b,off,U8⟩) l):∃z:List UV,z.length=l.length*7/\(∀(j:Nat)(u:UV),z[j]?=Ts u->w.cell? ((⟨b,off,U8⟩:VW).add j)=Ts u)/\(∀u∈z,u.oneCell'=true)/\
  ∀(t:UN)(base:Nat)(v:UV),aq w t->t.ownsRow base 75 7 v l.length z->Ke 7 CO t v l:=by
 obtain⟨C,D,O⟩:=F6 p;have I:∀(j:Nat)(r:b7),l[j]?=Ts r->∃e,(l.zip C)[j]?=Ts (r,e)/\w.cell? ⟨b,off+j*7+2,U8⟩=Ts (Tm e.1 r.pats.length e.2)/\r.pats.length<=e.2/\e.2<=VL/\js w e.1 r.pats:=fun j r s=>by
  obtain⟨e,h1,y⟩:=O j r s;exact⟨e,List.getElem?_zip_eq_some.2 ⟨s,h1⟩,y⟩
 have o:((l.zip C).flatMap FC).length=l.length*7:=by
  have:∀(q:List (b7×(Option VW×Nat))),(q.flatMap FC).length=q.length*7:=fun q=>by
   induction q with
   |nil=>rfl
   |cons x q W=>rw[Vh,Uo,W,Up];show 7+_=_;omega
  rw[this,List.length_zip,D,Nat.min_self]
 have d:∀(j:Nat)(u:UV),((l.zip C).flatMap FC)[j]?=Ts u->w.cell? ⟨b,off+j,U8⟩=Ts u/\u.oneCell'=true:=fun j u X=>by
  have Q:j<l.length*7:=by rw[<-o];exact(UU.1 X).1
  obtain⟨q,i,rfl,hi⟩:∃q i,j=q*7+i/\i<7:=⟨j/7,j%7,Ph,Ph⟩;obtain⟨r,s⟩:=ay (l:=l) (n:=l.length) rfl (k:=q) Ph;obtain⟨e,h1,y,_⟩:=I q r s;obtain⟨Z,H,E,q0,q1,_,V,M,T,N,_⟩:=p q r s;cases E;rw[fC (f:=FC) (fun _=>rfl) i h1 hi]at X;rw[<-Nat.add_assoc];unfold FC at X;match i,hi with
  |0,_=>simp at X;subst X;exact⟨q0,rfl⟩
  |1,_=>simp at X;subst X;exact⟨q1,rfl⟩
  |2,_=>simp at X;subst X;exact⟨y,rfl⟩
  |3,_=>simp at X;subst X;exact⟨V,rfl⟩
  |4,_=>simp at X;subst X;exact⟨M,rfl⟩
  |5,_=>simp at X;subst X;exact⟨T,rfl⟩
  |6,_=>simp at X;subst X;exact⟨N,rfl⟩
 refine⟨_,o,fun j u X=>?_,fun u X=>?_,fun t base v K m=>?_⟩
 .have:=(d j u X).1;rwa[show((⟨b,off,U8⟩:VW).add j)=⟨b,off+j,U8⟩from Px]
 .obtain⟨j,Q⟩:=List.getElem?_of_mem X;exact(d j u Q).2
 rcases dD m with⟨rfl,L,_⟩|⟨g,cap,G,S,_,_,J,B⟩
 .have F:l=[]:=VA L;subst F;exact Tw
 refine⟨Ts ⟨g,0,U8⟩,cap,G,J,B,fun j r s=>⟨g,0,rfl,?_⟩⟩;obtain⟨e,h1,y,A,R,Y⟩:=I j r s;obtain⟨_,_,_,_,_,_,_,_,_,_,U,P⟩:=p j r s;have c:∀(i:Nat)(u:UV),i<7->(FC (r,e))[i]?=Ts u->t.cell? ⟨g,j*7+i,U8⟩=Ts u:=fun i u hi X=>
  ir m (by rw[G];rfl) (by rw[fC (f:=FC) (fun _=>rfl) i h1 hi];exact X)
 rw[VY];exact⟨c 0 _ Pi rfl,c 1 _ Pi rfl,⟨e.1,e.2,c 2 _ Pi rfl,A,R,Y.ext K⟩,c 3 _ Pi rfl,c 4 _ Pi rfl,c 5 _ Pi rfl,c 6 _ Pi rfl,U,P⟩
def MM{l:List b7}(hn:l.length=n)(s:qz w a l):∃d:List UV,d.length=n*7/\(∀p,a=Ts p->∀(j:Nat)(u:UV),d[j]?=Ts u->w.cell? (p.add j)=Ts u)/\(∀u∈d,u.oneCell'=true)/\(a=U8->n=0)/\
  ∀(m:UN)(base:Nat)(v:UV),aq w m->m.ownsRow base 75 7 v n d->Ke 7 CO m v l:=by
 by_cases B:n=0
 .subst B;have o:l=[]:=VA hn;refine⟨[],rfl,fun _ _ j u h=>QX,fun u h=>QX,fun _=>rfl,fun m base v _ f=>?_⟩;rw[o];rcases dD f with⟨rfl,_,_⟩|⟨g,cap,y,_,_,_,_,q⟩
  .exact Tw
  exact⟨_,cap,y,VF _,q,ZO _ _ _ _⟩
 obtain⟨r,z⟩:=ay hn (k:=0) Ph;obtain⟨b,off,x,_⟩:=s 0 r z;subst x;obtain⟨d,h1,c,A,t⟩:=DK s;rw[hn]at h1 t;exact⟨d,h1,fun p x=>by cases x;exact c,A,(fun h=>Rw),t⟩
def Gr(l:List UV)(a cap n)(w:UN)(y:cap<=VL)(h1:l.length=n*7)(x:∀p,a=Ts p->∀(j:Nat)(u:UV),l[j]?=Ts u->w.cell? (p.add j)=Ts u)(A:∀u∈l,u.oneCell'=true)(L:a=U8->n=0)(C:n<=100000):
  VB UB 69 #[Tm a n cap] w fun e b=>∃v,e=UO v/\b.ownsRow w.heap.size 75 7 v n l/\aq w b:=by
 obtain⟨i0,hi,t,r,s⟩:=WN infoRule;have q:=fun(w:UN)(a:Option VW)(n c:Nat)=>Lib.run_eql_slice_nil (P:=UB) w 24 _ a n c 0 0 underlying24;refine P3 h1 x A fun B z F=>?_;cases a with
 |none=>
  obtain rfl:n=0:=L rfl;go_enter func69,ntmps69;go_wp2;go_ret;refine⟨_,rfl,?_,P0⟩;rw[show l=[]from VA (by rw[B.out])];exact WO _ _ _ _
 |some p=>
  have m:=Tn (z p rfl);go_enter func69,ntmps69;go_wp2_with (at_builtin;refine wpList_append_own _ rfl _ _ 24 rfl w.heap.size 75 i0 (UT #[UH ⟨#[]⟩,U1 false,zz,Ti Tt 0,Ti Tl 0,Ti Tl 0,Ti Tl 0]) 7 80 underlying24 hi t r s rfl Pi _ 0 [] rfl (World.ownsRow_made w #[] 0 (UY _) (VF _) Pm) p n cap l rfl B.out (fun j u X=>((af (Below.refl _ w) _).cell (aR (m j u X))).trans (m j u X)) F Pr Ph Pm ?_;intro E D f d _)
  go_ret;have g:aq w D:=((Below.refl _ w).alloc (UY _) _).grown d Pm (fun k o=>by have e:Ts w.heap.size=Ts k:=o;cases e;exact UY _);exact⟨E,rfl,Rz,g⟩
end
def vZ{α:Type}(l:List α):List (Nat×α):=(l.zipIdx.map fun p=>(p.2,p.1)).reverse
def iB{α:Type}(l:List α):(vZ l).length=l.length:=by simp[vZ]
def zp{α:Type}{l:List α}{e:α}(Q:j+1+k=l.length)(b:l[j]?=Ts e):(vZ l)[k]?=Ts (j,e):=by
 unfold vZ;rw[List.getElem?_reverse Pp];simp only[VR,List.length_zipIdx];rw[show l.length-1-k=j from Ph,VU,List.getElem?_zipIdx,b];simp
def JT{α:Type}{l:List α}{p:Nat×α}(h:(vZ l)[k]?=Ts p):p.1+1+k=l.length/\l[p.1]?=Ts p.2:=by
 have o:k<l.length:=by have:=(UU.1 h).1;rwa[iB]at this
 obtain⟨e,b⟩:=ay (l:=l) (n:=l.length) rfl (k:=l.length-1-k) Ph;have:=zp (k:=k) Ph b;rw[this]at h;cases h;exact⟨Pp,b⟩
def ajP(i:UV)(m:Nat):Prop:=(m=0/\i=Ti Tl (-1))\/∃j:Nat,m=j+1/\i=Ti Tl j
def Dr(m:Nat):ajP (Ti Tl ((m:Int)-1)) m:=by
 cases m with
 |zero=>exact .inl ⟨rfl,rfl⟩
 |succ j=>exact .inr ⟨j,rfl,by congr 1;omega⟩
def Fa(t:au):df (42::t)=false:=by
 rw[Xm];intro h;unfold df at h;simp only[V7,WE,List.mem_range]at h;have:=h.2 0 Pm;unfold ae6 at this;have h1:lw (((42::t).getD 0 0).toNat:Int)=false:=by simp[lw]
 have c:nR (((42::t).getD 0 0).toNat:Int)=false:=by simp[nR,lw]
 rw[h1,c]at this;split at this
 .cases this
 split at this
 .simp at this
 cases this
def Ml(t:au):∃h r,cut (42::t)=(42::h)::r:=by
 unfold cut;rw[if_neg Pi];split
 .exact⟨_,_,rfl⟩
 exact⟨_,_,rfl⟩
def rI(t:au):gX (42::t)=false:=by
 rw[Xm];intro h;obtain⟨x,r,m⟩:=Ml t;have:=(gC.1 h).2.2 (42::x) (by rw[m];simp);rw[Fa]at this;cases this
def acM:gX []=false:=Pi
def ry(l:au):Yw l [42,46]=true↔∃t,l=42::46::t:=by
 unfold Yw;match l with
 |[]=>simp
 |[a]=>simp[List.isPrefixOf]
 |a::b::t=>
  have e:List.isPrefixOf [42,46] (a::b::t)=(42==a&&46==b):=by simp[List.isPrefixOf]
  rw[e,V7,beq_iff_eq,beq_iff_eq];constructor
  .rintro⟨h1,c⟩;exact⟨t,by rw[h1,c]⟩
  rintro⟨d,h⟩;injection h with h1 c;injection c with c _
  exact⟨h1.symm,c.symm⟩
def rZ{l:au}{a b}:jH l a b=true↔l.length<=b/\(cut l).length<=a/\∀x∈cut l,df x=true:=by
 unfold jH;simp only[V7,decide_eq_true_eq,WE];exact⟨fun h=>⟨h.1.1,h.1.2,h.2⟩,fun h=>⟨⟨h.1,h.2.1⟩,h.2.2⟩⟩
def jX(l:au):cD l=true↔∃t,l=42::46::t/\jH t 7 62=true:=by
 unfold cD;simp only[V7,decide_eq_true_eq,beq_iff_eq];constructor
 .rintro⟨⟨⟨⟨⟨h1,m⟩,A⟩,d⟩,f⟩,j⟩;match l,h1 with
  |a::b::t,_=>
   simp at A d;subst A d;refine⟨t,rfl,rZ.2 ⟨by simp at m;omega,j,(gC.1 f).2.2⟩⟩
 rintro⟨t,rfl,h⟩;obtain⟨a,b,c⟩:=rZ.1 h;have g:t≠[]:=by
  rintro rfl;have:=c [] (by simp[cut]);revert this;decide
 have p:1<=t.length:=by cases t with|nil=>exact absurd rfl g|cons=>simp
 exact⟨⟨⟨⟨⟨Pp,Pp⟩,rfl⟩,rfl⟩,gC.2 ⟨Pp,Pp,c⟩⟩,b⟩
def xD{l:au}(h:cD l=true):gX l=false:=by
 obtain⟨t,rfl,_⟩:=(jX l).1 h;exact rI _
def oZ{l:au}(h:cD l=true):eQ l=l.drop 2:=by rw[eQ,if_pos h]
def Fu(l:au):(dy l).2.2=cX l:=by
 unfold dy cX;split
 .rename_i h;rw[h];simp
 rename_i h
 rw[Xm.2 h,Bool.or_false];split
 .rename_i x
  obtain⟨t,rfl⟩:=(ry l).1 x;rw[YH,jX];constructor
  .intro h;exact⟨t,rfl,h⟩
  rintro⟨b,h1,c⟩;simp at h1;subst h1;exact c
 rename_i x
 symm;rw[Xm];intro z;obtain⟨t,rfl,_⟩:=(jX l).1 z;exact x ((ry _).2 ⟨t,rfl⟩)
def dT{l:au}(h:gX l=true):cD l=false:=by
 rw[Xm];intro z;rw[xD z]at h;cases h
def sZ{l:au}(h:cD l=true):gX (eQ l)=true/\eQ l≠[]:=by
 rw[oZ h];obtain⟨t,rfl,f⟩:=(jX l).1 h;obtain⟨a,b,c⟩:=rZ.1 f;have d:gX t=true:=gC.2 ⟨Ph,Ph,c⟩;refine⟨d,?_⟩;rintro h;simp at h;rw[h]at d;cases d
def afP{x y:b7}:x=y↔(x.name=y.name/\x.allow=y.allow/\x.pats=y.pats/\x.keyMin=y.keyMin/\x.lifeMax=y.lifeMax/\x.most=y.most/\x.window=y.window):=by
 cases x;cases y;simp
instance:DecidableEq b7:=fun _ _=>decidable_of_iff _ afP.symm
def AY{α:Type}{l m:List α}{x y:α}(h:l.take k=m.take k)(b:l[k]?=Ts x)(U:m[k]?=Ts y)(e:x=y):l.take (k+1)=m.take (k+1):=by
 rw[Xk,Xk,h,b,U,e]
def eB(l:au):List au:=oq (l.length+1) l
def cG{s o:au}:ie s o=true↔o∈eB s:=by
 unfold ie eB;rw[List.contains_eq_mem,decide_eq_true_eq]
def gQ{s:au}(h:up s≠[]):eB s=up s::eB (up s):=Ga s h
def iP{s:au}(h:up s=[]):eB s=[]:=JC s h
def vK:∀(n:Nat)(s a:au),s.length<n->a∈eB s->a.length<s.length/\a≠[]
 |0,_,_,h,_=>absurd h (YG _)
 |n+1,s,a,h,b=>by
  by_cases X:up s=[]
  .rw[iP X]at b;cases b
  rw[gQ X]at b;have p:=vh s X;rcases VN.1 b with rfl|b
  .exact⟨p,X⟩
  have:=vK n (up s) a Ph b;exact⟨Ph,this.2⟩
def zQ{s a:au}(h:ie s a=true):a.length<s.length/\a≠[]:=vK _ s a (Nat.lt_succ_self _) (cG.1 h)
def rr:∀(n:Nat)(s a b:au),s.length<n->a∈eB s->b∈eB a->b∈eB s
 |0,_,_,_,h,_,_=>absurd h (YG _)
 |n+1,s,a,b,h,c,hb=>by
  by_cases X:up s=[]
  .rw[iP X]at c;cases c
  rw[gQ X]at c⊢;have p:=vh s X;rcases VN.1 c with rfl|c
  .exact WW _ hb
  exact WW _ (rr n (up s) a b Ph c hb)
def tQ{s a b:au}(h1:ie s a=true)(c:ie a b=true):ie s b=true:=
 cG.2 (rr _ s a b (Nat.lt_succ_self _) (cG.1 h1) (cG.1 c))
def rH:∀(n:Nat)(s a b:au),s.length<n->a∈eB s->b∈eB s->a=b\/b∈eB a\/a∈eB b
 |0,_,_,_,h,_,_=>absurd h (YG _)
 |n+1,s,a,b,h,c,hb=>by
  by_cases X:up s=[]
  .rw[iP X]at c;cases c
  rw[gQ X]at c hb;have p:=vh s X;rcases VN.1 c with rfl|c
  .rcases VN.1 hb with rfl|hb
   .exact .inl rfl
   exact .inr (.inl hb)
  rcases VN.1 hb with rfl|hb
  .exact .inr (.inr c)
  exact rH n (up s) a b Ph c hb
def Ec{s a b:au}(h1:ie s a=true)(c:ie s b=true):a=b\/ie a b=true\/ie b a=true:=by
 rcases rH _ s a b (Nat.lt_succ_self _) (cG.1 h1) (cG.1 c)with h|h|h
 .exact .inl h
 .exact .inr (.inl (cG.2 h))
 exact .inr (.inr (cG.2 h))
def DU{t:au}{x:au}(m:∀c∈x,c≠(46:UInt8)):cut (x++46::t)=x::cut t:=by
 induction x with
 |nil=>simp[cut]
 |cons c x b=>
  have J:c≠46:=m c Pm;have:=b (fun d y=>m d (by simp[y]));rw[Vu,cut,if_neg J,this]
def yq{t:au}{x:au}(m:∀c∈x,c≠(46:UInt8)):fA (x++46::t)=t:=by
 induction x with
 |nil=>simp[fA]
 |cons c x b=>
  have J:c≠46:=m c Pm;rw[Vu,fA,if_neg J];exact b (fun d y=>m d (by simp[y]))
def L9{x t:au}(m:∀c∈x,c≠(46:UInt8)):gX (x++46::t)=true↔df x=true/\gX t=true/\(x++46::t).length<=64/\(cut t).length<8:=by
 rw[gC,DU m,gC];simp only[Up,VN,Uo];constructor
 .rintro⟨h1,d,A⟩;exact⟨A x (.inl rfl),⟨Ph,Ph,fun y U=>A y (.inr U)⟩,h1,Ph⟩
 rintro⟨h1,⟨d,A,f⟩,b,g⟩;exact⟨b,Ph,fun y U=>U.elim (fun e=>e▸h1) (f y)⟩
def abR{x t:au}(m:∀c∈x,c≠(46:UInt8))(h:gX (x++46::t)=true):up (x++46::t)=t:=by
 unfold up;rw[if_pos h,yq m]
def iT{p:au}(h:cD p=true):∃a,p=42::46::a/\eQ p=a:=by
 obtain⟨t,rfl,_⟩:=(jX p).1 h;exact⟨t,rfl,by rw[oZ h];rfl⟩
def cO{p:au}(h:cX p=true):gX p=true\/cD p=true:=by
 unfold cX at h;rcases WU _ _▸h with h|h
 .exact .inr h
 exact .inl h
def d8{p s:au}(x:gX p=true):b9 p s=(gX s&&p==s):=by
 unfold b9;rw[dT x];cases gX s<;>simp
def eJ{p s:au}(x:cD p=true):b9 p s=(gX s&&ie s (eQ p)):=by
 unfold b9;rw[x];cases gX s<;>simp
def dG{p q:au}(x:gX p=true)(N:cX q=true):bT p q=b9 q p:=by
 unfold bT;rw[dT x,N];unfold cX;rw[x];simp
def bR{p q:au}(x:cD p=true)(N:cX q=true):bT p q=(cD q&&(eQ p==eQ q||ie (eQ p) (eQ q))):=by
 unfold bT;rw[x,N];unfold cX;rw[x];simp
def iz{p q:au}(h:bT p q=true):cX p=true/\cX q=true:=by
 unfold bT at h;cases x:cX p
 .rw[x]at h;simp at h
 cases N:cX q
 .rw[N]at h;simp at h
 exact⟨rfl,rfl⟩
def Bi{p q s:au}(h:bT p q=true)(K:b9 p s=true):b9 q s=true:=by
 obtain⟨x,N⟩:=iz h;rcases cO x with x|x
 .rw[d8 x]at K;obtain⟨_,e⟩:=V7 _ _▸K;rw[<-beq_iff_eq.1 e,<-dG x N];exact h
 rw[eJ x]at K;obtain⟨z,hb⟩:=V7 _ _▸K;rw[bR x N]at h;obtain⟨b,X⟩:=V7 _ _▸h;rw[eJ b,z,Wo];rcases WU _ _▸X with X|X
 .rw[<-beq_iff_eq.1 X];exact hb
 exact tQ hb X
def fJ{p s:au}(h:b9 p s=true):cX p=true:=by
 unfold cX;cases x:cD p
 .unfold b9 at h;rw[x]at h;cases z:gX s
  .rw[z]at h;simp at h
  rw[z]at h;simp at h;rw[h,z];rfl
 rfl
def Dp{p q s:au}(h1:b9 p s=true)(c:b9 q s=true):bT p q=true\/bT q p=true:=by
 have x:=fJ h1;have N:=fJ c;rcases cO x with f|b
 .rw[d8 f]at h1;obtain⟨_,e⟩:=V7 _ _▸h1;left;rw[dG f N,beq_iff_eq.1 e];exact c
 rcases cO N with g|d
 .rw[d8 g]at c;obtain⟨_,e⟩:=V7 _ _▸c;right;rw[dG g x,beq_iff_eq.1 e];exact h1
 rw[eJ b]at h1;rw[eJ d]at c;obtain⟨_,b1⟩:=V7 _ _▸h1;obtain⟨_,b2⟩:=V7 _ _▸c;rcases Ec b1 b2 with e|e|e
 .left;rw[bR b N,d,e];simp
 .left;rw[bR b N,d,e];simp
 right;rw[bR d x,b,e];simp
def ln(p:au):bT p p=cX p:=by
 cases x:cX p
 .rw[Xm];intro h;rw[(iz h).1]at x;cases x
 rcases cO x with b|c
 .rw[dG b x,d8 b,b];simp
 rw[bR c x,c];simp
def AU{p q o:au}(h1:bT p q=true)(c:bT q o=true):bT p o=true:=by
 obtain⟨x,N⟩:=iz h1;obtain⟨_,m⟩:=iz c;rcases cO x with g|f
 .rw[dG g N]at h1;rw[dG g m];exact Bi c h1
 rw[bR f N]at h1;obtain⟨l,b⟩:=V7 _ _▸h1;rw[bR l m]at c;obtain⟨j,d⟩:=V7 _ _▸c;rw[bR f m,j,Wo];rcases WU _ _▸b with b|b
 .rw[beq_iff_eq.1 b];exact d
 rcases WU _ _▸d with d|d
 .rw[<-beq_iff_eq.1 d,b];simp
 rw[tQ b d];simp
def th{p q:au}(h1:bT p q=true)(c:bT q p=true):p=q:=by
 obtain⟨x,N⟩:=iz h1;rcases cO x with j|f
 .rcases cO N with g|d
  .rw[dG j N,d8 g]at h1;obtain⟨_,e⟩:=V7 _ _▸h1;exact(beq_iff_eq.1 e).symm
  rw[bR d x,dT j]at c;cases c
 rcases cO N with g|d
 .rw[bR f N,dT g]at h1;cases h1
 rw[bR f N,d,Wo]at h1;rw[bR d x,f,Wo]at c;have e:eQ p=eQ q:=by
  rcases WU _ _▸h1 with l|l
  .exact beq_iff_eq.1 l
  rcases WU _ _▸c with m|m
  .exact(beq_iff_eq.1 m).symm
  have a1:=(zQ l).1;have a2:=(zQ m).1;omega
 obtain⟨a,rfl,o⟩:=iT f;obtain⟨b,rfl,hb⟩:=iT d;rw[o,hb]at e;rw[e]
def Iu(nm:ByteArray)(i:Int)(st:Int×ByteArray)(p:ByteArray):Int×ByteArray:=
 if b9 p.data.toList nm.data.toList&&(decide (st.1<0)||(!(p.toList==st.2.toList)&&bT p.data.toList st.2.data.toList))then(i,p)else st
def Cy(nm:ByteArray)(l:List b7):Nat->Int×ByteArray
 |0=>(-1,⟨#[]⟩)
 |k+1=>match l[k]? with
  |none=>Cy nm l k
  |some r=>r.pats.foldl (Iu nm k) (Cy nm l k)
def oF(l:List b7)(nm:ByteArray):Int:=(Cy nm l l.length).1
def iZ(l:List b7)(p:ByteArray):Option Nat:=l.findIdx? fun r=>iI r.pats p
def rh(u:au):ByteArray:=⟨((42:UInt8)::46::u).toArray⟩
def eX{α β:Type}(f:α->Option β):List α->Option β
 |[]=>U8
 |x::l=>match f x with
  |some y=>Ts y
  |none=>eX f l
def jJ(nm:ByteArray):List ByteArray:=nm::(eB nm.data.toList).map rh
def lq(l:List b7)(p:ByteArray):Option Nat:=if cX p.data.toList then iZ l p else U8
def zY(l:List b7)(nm:ByteArray):Int:=match eX (lq l) (jJ nm)with
 |some i=>(i:Int)
 |none=>-1
def pd(l:List b7)(nm:ByteArray)(i:Int):Prop:=
 (i=-1/\∀r∈l,∀p∈r.pats,b9 p.data.toList nm.data.toList=false)\/
 ∃(k:Nat)(r:b7)(p:ByteArray),i=(k:Int)/\l[k]?=Ts r/\p∈r.pats/\b9 p.data.toList nm.data.toList=true/\
  (∀b∈l,∀q∈b.pats,b9 q.data.toList nm.data.toList=true->bT p.data.toList q.data.toList=true)/\
  ∀(j:Nat)(b:b7),j<k->l[j]?=Ts b->p∉b.pats
def pd.unique{l i j}(h:pd l nm i)(m:pd l nm j):i=j:=by
 rcases h with⟨rfl,hn⟩|⟨k,r,p,rfl,o,x,K,u,cf⟩
 .rcases m with⟨rfl,_⟩|⟨k,r,p,rfl,o,x,K,_,_⟩
  .rfl
  exact Zch
 rcases m with⟨rfl,hn⟩|⟨t,q,s,rfl,c,b,f,g,d⟩
 .exact Zch
 have e:p=s:=ez (th (u q (Uv c) s b f) (g r (Uv o) p x K));subst e;rcases Nat.lt_trichotomy k t with h|h|h
 .exact absurd x (d k r h o)
 .rw[h]
 exact absurd b (cf t q h c)
def sd(nm:ByteArray)(l:List b7)(k:Nat)(ps:List ByteArray)(st:Int×ByteArray):Prop:=
 (st.1=-1/\(∀r∈l.take k,∀p∈r.pats,b9 p.data.toList nm.data.toList=false)/\∀p∈ps,b9 p.data.toList nm.data.toList=false)\/
 ∃(i:Nat),st.1=(i:Int)/\((i<k/\∃r,l[i]?=Ts r/\st.2∈r.pats)\/(i=k/\st.2∈ps))/\b9 st.2.data.toList nm.data.toList=true/\
  (∀r∈l.take k,∀q∈r.pats,b9 q.data.toList nm.data.toList=true->bT st.2.data.toList q.data.toList=true)/\
  (∀q∈ps,b9 q.data.toList nm.data.toList=true->bT st.2.data.toList q.data.toList=true)/\
  ∀(j:Nat)(b:b7),j<i->l[j]?=Ts b->st.2∉b.pats
def sd.step{l st}(h:sd nm l k ps st)(p):sd nm l k (ps++[p]) (Iu nm k st p):=by
 unfold Iu;cases K:b9 p.data.toList nm.data.toList
 .rw[Bool.false_and,if_neg Pm];rcases h with⟨h1,c,A⟩|⟨i,h1,c,A,m,s,t⟩
  .refine .inl ⟨h1,c,fun q N=>?_⟩;rcases WD.1 N with N|N
   .exact A q N
   rw[VP]at N;subst N;exact K
  refine .inr ⟨i,h1,Uw,A,m,fun q N b=>?_,t⟩;rcases WD.1 N with N|N
  .exact s q N b
  rw[VP]at N;subst N;rw[K]at b;cases b
 rw[Wo];rcases h with⟨h1,c,A⟩|⟨i,h1,c,A,m,s,t⟩
 .rw[show decide (st.1<0)=true from Zby,Bool.true_or,if_pos rfl];have y:bT p.data.toList p.data.toList=true:=by rw[ln];exact fJ K
  refine .inr ⟨k,rfl,.inr ⟨rfl,Pm⟩,K,fun r u q N b=>?_,fun q N b=>?_,fun j z Q d x=>?_⟩
  .rw[c r u q N]at b;cases b
  .rcases WD.1 N with N|N
   .rw[A q N]at b;cases b
   rw[VP]at N;subst N;exact y
  have:=c z (Uv (i:=j) (by rw[XM,if_pos Q];exact d)) p x;rw[K]at this;cases this
 rw[show decide (st.1<0)=false by rw[h1];simp,Bool.false_or];have C:i<=k:=by rcases c with c|c<;>omega
 by_cases J:(!(p.toList==st.2.toList)&&bT p.data.toList st.2.data.toList)=true
 .rw[if_pos J];rw[V7]at J;obtain⟨zs,o⟩:=J;have f:p≠st.2:=fun e=>by rw[e]at zs;simp at zs
  have B:∀q:ByteArray,bT st.2.data.toList q.data.toList=true->bT p.data.toList q.data.toList=true:=fun q N=>AU o N;refine .inr ⟨k,rfl,.inr ⟨rfl,Pm⟩,K,fun r u q N b=>B q (m r u q N b),fun q N b=>?_,fun j z Q d x=>?_⟩
  .rcases WD.1 N with N|N
   .exact B q (s q N b)
   rw[VP]at N;subst N;rw[ln];exact fJ K
  have:=m z (Uv (i:=j) (by rw[XM,if_pos Q];exact d)) p x K;exact f (ez (th o this))
 rw[if_neg J];refine .inr ⟨i,h1,Uw,A,m,fun q N b=>?_,t⟩;rcases WD.1 N with N|N
 .exact s q N b
 rw[VP]at N;subst N;rw[V7,not_and]at J;by_cases e:q=st.2
 .rw[e,ln];exact fJ A
 have zs:(!(q.toList==st.2.toList))=true:=by
  rw[Wh,beq_eq_false_iff_ne,Yb,Yb];exact fun g=>e (ez g)
 rcases Dp b A with g|g
 .exact absurd g (J zs)
 exact g
def sd.fold{l}:∀(b:List ByteArray){ps:List ByteArray}{st:Int×ByteArray},sd nm l k ps st->sd nm l k (ps++b) (b.foldl (Iu nm k) st)
 |[],ps,st,h=>QJ
 |q::b,ps,st,h=>by
  have:=sd.fold b (h.step q);rw[Ws]at this;exact this
def sd.next{l}{r:b7}{st}(u:l[k]?=Ts r)(h:sd nm l k r.pats st):sd nm l (k+1) [] st:=by
 have g:l.take (k+1)=l.take k++[r]:=by rw[Xk,u];rfl
 rcases h with⟨h1,c,A⟩|⟨i,h1,c,A,o,m,j⟩
 .refine .inl ⟨h1,fun f d=>?_,Pm⟩;rw[g]at d;rcases WD.1 d with d|d
  .exact c f d
  rw[VP]at d;subst d;exact A
 refine .inr ⟨i,h1,.inl ?_,A,fun f d=>?_,Pm,j⟩
 .rcases c with⟨a,b⟩|⟨a,b⟩
  .exact⟨Ph,b⟩
  exact⟨Ph,r,by rw[a];exact u,b⟩
 rw[g]at d;rcases WD.1 d with d|d
 .exact o f d
 rw[VP]at d;subst d;exact m
def zh(nm)(l:List b7):∀(k:Nat),k<=l.length->sd nm l k [] (Cy nm l k)
 |0,_=> .inl ⟨rfl,Pm,Pm⟩
 |k+1,h=>by
  have u:l[k]?=Ts (l[k]'Ph):=V8 Ph;have b:=zh nm l k Ph;rw[Cy,u];have:=sd.fold (l[k]'Ph).pats b;rw[Vd]at this;exact sd.next u this
def pS(l nm):pd l nm (oF l nm):=by
 have h:=zh nm l l.length (UY _);unfold oF;rcases h with⟨h1,c,_⟩|⟨i,h1,c,A,b,_,d⟩
 .rw[Yi]at c;exact .inl ⟨h1,c⟩
 rw[Yi]at b;rcases c with⟨_,r,u,x⟩|⟨_,x⟩
 .exact .inr ⟨i,r,_,h1,u,x,A,b,d⟩
 cases x
def ye{l}(h:iZ l p=Ts i):(∃r,l[i]?=Ts r/\p∈r.pats)/\∀(j:Nat)(d:b7),j<i->l[j]?=Ts d->p∉d.pats:=by
 unfold iZ at h;rw[List.findIdx?_eq_some_iff_getElem]at h;obtain⟨R,h1,c⟩:=h;refine⟨⟨l[i],V8 R,ix.1 h1⟩,fun j d Q b x=>?_⟩;obtain⟨f,rfl⟩:=UU.1 b;have:=c j Q;rw[ix.2 x]at this;simp at this
def pP{l}(h:iZ l p=U8):∀r∈l,p∉r.pats:=by
 unfold iZ at h;rw[List.findIdx?_eq_none_iff]at h;intro r u x;have:=h r u;rw[ix.2 x]at this;cases this
def oE{α β:Type}{f:α->Option β}:∀{l:List α}{y:β},eX f l=Ts y->∃(a b:List α)(x:α),l=a++x::b/\f x=Ts y/\∀z∈a,f z=U8
 |[],_,h=>by simp[eX]at h
 |x::l,y,h=>by
  unfold eX at h;split at h
  .rename_i m;cases h;exact⟨[],l,x,rfl,m,Pm⟩
  rename_i m
  obtain⟨a,b,x',h1,c,A⟩:=oE h;refine⟨x::a,b,x',Zby,c,fun z d=>?_⟩;rcases VN.1 d with rfl|d
  .exact m
  exact A z d
def nS{α β:Type}{f:α->Option β}:∀{l:List α},eX f l=U8->∀z∈l,f z=U8
 |[],_=>Pm
 |x::l,h=>by
  unfold eX at h;split at h
  .cases h
  rename_i m
  intro z b;rcases VN.1 b with rfl|b
  .exact m
  exact nS h z b
def fL(u:au):(rh u).data.toList=42::46::u:=rfl
def xi(h:b9 p.data.toList nm.data.toList=true):p∈jJ nm:=by
 have x:=fJ h;unfold jJ;rcases cO x with hn|z
 .rw[d8 hn]at h;rw[V7,beq_iff_eq]at h;rw[ez h.2];simp
 rw[eJ z,V7]at h;obtain⟨a,b,hb⟩:=iT z;rw[hb]at h;refine WW _ (Wl.2 ⟨a,cG.1 h.2,?_⟩);exact ez (by rw[fL,b])
def wA(z:gX nm.data.toList=true)(h:p∈jJ nm)(x:cX p.data.toList=true):b9 p.data.toList nm.data.toList=true:=by
 unfold jJ at h;rcases VN.1 h with rfl|h
 .rw[d8 z,z];simp
 obtain⟨a,f,rfl⟩:=Wl.1 h;rcases cO x with hn|c
 .rw[fL]at hn;have:=rI (46::a);rw[hn]at this;cases this
 rw[eJ c,z,Wo];obtain⟨b,hb,d⟩:=iT c;rw[fL]at hb;cases hb;rw[d];exact cG.2 f
def oK:∀(n:Nat)(s:au),s.length<n->(eB s).Pairwise fun a b=>b∈eB a
 |0,_,h=>absurd h (YG _)
 |n+1,s,h=>by
  by_cases X:up s=[]
  .rw[iP X];exact Yk
  rw[gQ X];have:=vh s X;exact Y2.2 ⟨fun b hb=>hb,oK n (up s) Ph⟩
def Bc{a b:List ByteArray}{q:ByteArray}(z:gX nm.data.toList=true)(h:jJ nm=a++p::b)(N:q∈b)(C:cX p.data.toList=true)(g:cX q.data.toList=true):bT p.data.toList q.data.toList=true:=by
 unfold jJ at h;cases a with
 |nil=>
  rw[Vd]at h;injection h with h1 h2
  subst h1;rw[dG z g];refine wA z ?_ g;unfold jJ;rw[h2];exact WW _ N
 |cons x a=>
  injection h with h1 h2
  have j:=oK _ nm.data.toList (Nat.lt_succ_self _);obtain⟨c,d,J,E,m⟩:=List.map_eq_append_iff.1 h2;obtain⟨u,e,rfl,X,A⟩:=List.map_eq_cons_iff.1 m;subst X A;obtain⟨v,B,rfl⟩:=Wl.1 N;rw[J]at j;have o:v∈eB u:=(Y2.1 (List.pairwise_append.1 j).2.1).1 v B;have f:∀(t:au),cX (rh t).data.toList=true->cD (42::46::t)=true/\eQ (42::46::t)=t:=fun t s=>by
   rw[fL]at s;rcases cO s with hn|l
   .rw[rI]at hn;cases hn
   obtain⟨b,hb,r⟩:=iT l;cases hb;exact⟨l,r⟩
  obtain⟨s1,F⟩:=f u C;obtain⟨y,D⟩:=f v g;rw[fL,fL]at*;rw[bR s1 (by unfold cX;rw[y];rfl),y,F,D,cG.2 o];simp
def AM{l}(h:lq l p=Ts i):cX p.data.toList=true/\iZ l p=Ts i:=by
 unfold lq at h;split at h
 .rename_i x;exact⟨x,h⟩
 cases h
def zG{l}(z:gX nm.data.toList=true):pd l nm (zY l nm):=by
 unfold zY;cases h:eX (lq l) (jJ nm)with
 |none=>
  refine .inl ⟨rfl,fun r u p x=>?_⟩;rw[Xm];intro K;have:=nS h p (xi K);unfold lq at this;rw[if_pos (fJ K)]at this;exact pP this r u x
 |some i=>
  obtain⟨a,b,p,h1,c,A⟩:=oE h;obtain⟨x,cf⟩:=AM c;obtain⟨⟨r,u,g⟩,f⟩:=ye cf;refine .inr ⟨i,r,p,rfl,u,g,wA z (by rw[h1];simp) x,fun m j q N d=>?_,f⟩;have J:=xi d;rw[h1]at J;rcases WD.1 J with J|J
  .have:=A q J;unfold lq at this;rw[if_pos (fJ d)]at this;exact absurd N (pP this m j)
  rcases VN.1 J with rfl|J
  .rw[ln];exact x
  exact Bc z h1 J x (fJ d)
def adT{l}(z:gX nm.data.toList=true):zY l nm=oF l nm:=(zG z).unique (pS l nm)
def aaD(x y:b7):Bool:=x.pats.any fun p=>iI y.pats p
def lL(l:List b7)(i k:Nat):Bool:=match l[i]?,l[k]? with
 |some x,Ts y=>aaD x y
 |_,_=>false
def je(l:List b7)(i m:Nat):List (Nat×Nat):=((We m).filter fun k=>decide (i<k)&&lL l i k).map fun k=>(i,k)
def mV(l:List b7)(j:Nat):List (Nat×Nat):=(We j).flatMap fun i=>je l i l.length
def gE(l:List b7):List (Nat×Nat):=mV l l.length
def yN{x y}:aaD x y=true↔∃p,p∈x.pats/\p∈y.pats:=by
 unfold aaD;rw[List.any_eq_true];constructor
 .rintro⟨p,h1,c⟩;exact⟨p,h1,ix.1 c⟩
 rintro⟨p,h1,c⟩;exact⟨p,h1,ix.2 c⟩
def gL{l}:lL l i k=true↔∃x y p,l[i]?=Ts x/\l[k]?=Ts y/\p∈x.pats/\p∈y.pats:=by
 unfold lL;constructor
 .intro h;split at h
  .rename_i x y m U
   obtain⟨p,h1,c⟩:=yN.1 h;exact⟨x,y,p,m,U,h1,c⟩
  cases h
 rintro⟨x,y,p,m,U,h1,c⟩;rw[m,U];exact yN.2 ⟨p,h1,c⟩
def yj(l i m):je l i (m+1)=je l i m++if decide (i<m)&&lL l i m then[(i,m)]else[]:=by
 unfold je;rw[List.range_succ,List.filter_append,WK];congr 1;rw[List.filter_cons];split<;>simp
def AO(l j):mV l (j+1)=mV l j++je l j l.length:=by
 unfold mV;rw[List.range_succ,Xw];simp
def jR{l q}:q∈je l i m↔q.1=i/\i<q.2/\q.2<m/\lL l i q.2=true:=by
 unfold je;simp only[Wl,List.mem_filter,List.mem_range,V7,decide_eq_true_eq];constructor
 .rintro⟨k,⟨h1,c,A⟩,rfl⟩;exact⟨rfl,c,h1,A⟩
 rintro⟨h1,c,A,b⟩;exact⟨q.2,⟨A,c,b⟩,by rw[<-h1]⟩
def sJ{l q}:q∈gE l↔q.1<q.2/\lL l q.1 q.2=true:=by
 unfold gE mV;simp only[List.mem_flatMap,List.mem_range,jR];constructor
 .rintro⟨i,_,rfl,h1,c,A⟩;exact⟨h1,A⟩
 rintro⟨h1,c⟩;obtain⟨x,y,p,m,U,_⟩:=gL.1 c;exact⟨q.1,(UU.1 m).1,rfl,h1,(UU.1 U).1,c⟩
def jB(a b:Nat×Nat):Prop:=a.1<b.1\/a.1=b.1/\a.2<b.2
def Dl{a b}(h:jB a b)(c:jB b a):False:=by
 unfold jB at h c;omega
def DB{a b}(h:a≠b):jB a b\/jB b a:=by
 unfold jB;have:¬(a.1=b.1/\a.2=b.2):=fun e=>h (Prod.ext e.1 e.2);omega
def uo(l i m):(je l i m).Pairwise jB:=by
 induction m with
 |zero=>exact Yk
 |succ m d=>
  rw[yj];refine List.pairwise_append.2 ⟨d,?_,fun a c b hb=>?_⟩
  .split
   .exact List.pairwise_singleton _ _
   exact Yk
  split at hb
  .rw[VP]at hb;subst hb;obtain⟨h1,_,A,_⟩:=jR.1 c;exact .inr ⟨h1,A⟩
  cases hb
def vC(l j):(mV l j).Pairwise jB:=by
 induction j with
 |zero=>exact Yk
 |succ j g=>
  rw[AO];refine List.pairwise_append.2 ⟨g,uo _ _ _,fun a f b hb=>?_⟩;obtain⟨h1,_⟩:=jR.1 hb;unfold mV at f;obtain⟨i,hi,d⟩:=List.mem_flatMap.1 f;obtain⟨c,_⟩:=jR.1 d;rw[List.mem_range]at hi;exact .inl Ph
def A5(l):(gE l).Pairwise jB:=vC l _
def pN{α:Type}{r:α->α->Prop}(u:∀a b,r a b->r b a->False):∀{l m:List α},l.Pairwise r->m.Pairwise r->(∀x,x∈l↔x∈m)->l=m
 |[],[],_,_,_=>rfl
 |[],b::m,_,_,h=>by have:=(h b).2 Pm;cases this
 |a::l,[],_,_,h=>by have:=(h a).1 Pm;cases this
 |a::l,b::m,p,K,h=>by
  obtain⟨l1,l2⟩:=Y2.1 p;obtain⟨m1,g⟩:=Y2.1 K;have e:a=b:=by
   rcases VN.1 ((h a).1 Pm)with e|f
   .exact e
   rcases VN.1 ((h b).2 Pm)with e|hb
   .exact e.symm
   exact(u _ _ (l1 b hb) (m1 a f)).elim
  subst e;rw[pN u l2 g fun x=>?_];constructor
  .intro c;rcases VN.1 ((h x).1 (WW _ c))with rfl|d
   .exact(u _ _ (l1 x c) (l1 x c)).elim
   exact d
  intro c;rcases VN.1 ((h x).2 (WW _ c))with rfl|d
  .exact(u _ _ (m1 x c) (m1 x c)).elim
  exact d
def uk{l}{m:List (Nat×Nat)}(z:m.Pairwise jB)(h:∀q,q∈m↔q.1<q.2/\lL l q.1 q.2=true):m=gE l:=
 pN (fun _ _=>Dl) z (A5 l) fun q=>by rw[h,sJ]
def nC{α:Type}[DecidableEq α]:∀{l m:List α},l.Nodup->(∀x∈l,x∈m)->l.length<=m.length
 |[],_,_,_=>VF _
 |a::l,m,p,h=>by
  obtain⟨h1,c⟩:=List.nodup_cons.1 p;have b:=h a Pm;have:=nC (m:=m.erase a) c fun x d=>by
   refine(List.mem_erase_of_ne ?_).2 (h x (WW _ d));rintro rfl;exact h1 d
  rw[List.length_erase_of_mem b]at this;have:=List.length_pos_of_mem b;simp only[Up];omega
def DT{l}(h:gE l=[]){x y:b7}(m:l[i]?=Ts x)(U:l[k]?=Ts y)(b:p∈x.pats)(N:p∈y.pats):i=k:=by
 rcases Nat.lt_trichotomy i k with R|e|R
 .have:(i,k)∈gE l:=sJ.2 ⟨R,gL.2 ⟨x,y,p,m,U,b,N⟩⟩;rw[h]at this;cases this
 .exact e
 have:(k,i)∈gE l:=sJ.2 ⟨R,gL.2 ⟨y,x,p,U,m,N,b⟩⟩;rw[h]at this;cases this
def bL(l:List b7):Int:=if gG l=0 then(if gE l=[]then 0 else 160)else gG l
structure Dv where
 label:ByteArray
 here':Int
 below:Int
 kids:List Int
def Nx{x y:Dv}:x=y↔(x.label=y.label/\x.here'=y.here'/\x.below=y.below/\x.kids=y.kids):=by
 cases x;cases y;simp
instance:DecidableEq Dv:=fun _ _=>decidable_of_iff _ Nx.symm
def eT(b:List Dv)(lab:ByteArray):List Int->Option Int
 |[]=>U8
 |k::l=>if((b[k.toNat]?).map fun x=>x.label.toList==lab.toList)==Ts true then Ts k else eT b lab l
def Aw(b:List Dv)(c:List Int):Prop:=∀k∈c,0<=k/\k.toNat<b.length
def qD{b}:∀{d:List Int}{q:Int},eT b lab d=Ts q->q∈d/\∃x,b[q.toNat]?=Ts x/\x.label=lab
 |[],_,h=>Rw
 |k::d,q,h=>by
  unfold eT at h;split at h
  .rename_i J
   cases h;refine⟨Pm,?_⟩;cases m:b[k.toNat]? with
   |none=>rw[m]at J;simp at J
   |some x=>
    rw[m]at J;simp only[Wm,beq_iff_eq,Vw]at J;exact⟨x,rfl,ez (by rwa[Yb,Yb]at J)⟩
  obtain⟨h1,c⟩:=qD h;exact⟨WW _ h1,c⟩
def wU{b}:∀{c:List Int},eT b lab c=U8->∀q∈c,∀x,b[q.toNat]?=Ts x->x.label≠lab
 |[],_,q,N=>by cases N
 |k::c,h,q,N=>by
  unfold eT at h;split at h
  .cases h
  rename_i J
  rcases VN.1 N with rfl|N
  .intro x m e;exact J (by rw[m,Wm,e];simp)
  exact wU h q N
def gN(lab:ByteArray):Dv:=⟨lab,-1,-1,[]⟩
def sg(ns:List Dv)(n:Nat):List Dv:=ns.modify n fun x=>{x with kids:=x.kids++[(ns.length:Int)]}
def j5(ns:List Dv)(n:Nat)(lab:ByteArray):List Dv:=sg ns n++[gN lab]
def eG(st:List Dv×Nat)(lab:ByteArray):List Dv×Nat:=match st.1[st.2]? with
 |none=>st
 |some x=>match eT st.1 lab x.kids with
  |some k=>(st.1,k.toNat)
  |none=>(j5 st.1 st.2 lab,st.1.length)
def oN(ns:List Dv)(ls:List ByteArray):List Dv×Nat:=ls.foldl eG (ns,0)
def nG(ns:List Dv)(n:Nat)(wide:Bool)(i:Int):List Dv:=ns.modify n fun x=>if wide then{x with below:=i}else{x with here':=i}
def jj(s:au):List ByteArray:=(cut s).reverse.map fun x=>⟨x.toArray⟩
def Mp(p:ByteArray):au:=if cD p.data.toList then p.data.toList.drop 2 else p.data.toList
def ed(p:ByteArray):List ByteArray:=jj (Mp p)
def sK(ns:List Dv)(p:ByteArray)(i:Int):List Dv:=nG (oN ns (ed p)).1 (oN ns (ed p)).2 (cD p.data.toList) i
def gk(ns:List Dv)(ps:List ByteArray)(i:Int):List Dv:=ps.foldl (fun ns p=>sK ns p i) ns
def ce(l:List b7):Nat->List Dv
 |0=>[gN ⟨#[]⟩]
 |k+1=>match l[k]? with
  |none=>ce l k
  |some r=>gk (ce l k) r.pats k
def ef(l:List b7):List Dv:=ce l l.length
def Bu(ns:List Dv):List ByteArray->Nat->Int->Int
 |[],n,last=>match ns[n]? with
  |some x=>if x.here'=-1 then last else x.here'
  |none=>last
 |lab::ls,n,last=>match ns[n]? with
  |some x=>match eT ns lab x.kids with
   |some k=>Bu ns ls k.toNat (if x.below=-1 then last else x.below)
   |none=>if x.below=-1 then last else x.below
  |none=>last
def mg(ns:List Dv)(nm:ByteArray):Int:=Bu ns (jj nm.data.toList) 0 (-1)
structure ew(ns:List Dv)(ps:List (List ByteArray)):Prop where
 len:ps.length=ns.length
 root:ps[0]?=Ts []
 kid:∀(j:Nat)(x:Dv),ns[j]?=Ts x->∀k∈x.kids,∃(m:Nat)(y:Dv)(P:List ByteArray),k=(m:Int)/\j<m/\ns[m]?=Ts y/\ps[j]?=Ts P/\ps[m]?=Ts (P++[y.label])
 up:∀(m:Nat)(y:Dv),0<m->ns[m]?=Ts y->∃(j:Nat)(x:Dv),ns[j]?=Ts x/\(m:Int)∈x.kids
 nodup:ps.Nodup
 perm:(ns.flatMap (·.kids)).Perm ((We (ns.length-1)).map fun i=>((i+1:Nat):Int))
def rY{α:Type}{l:List α}(h:l.Nodup){x:α}(hi:l[i]?=Ts x)(Q:l[j]?=Ts x):i=j:=by
 obtain⟨d,b⟩:=UU.1 hi;obtain⟨f,c⟩:=UU.1 Q;exact(List.getElem_inj h).1 (b.trans c.symm)
def ew.kidsIn{ns ps}(h:ew ns ps){x:Dv}(b:ns[j]?=Ts x):Aw ns x.kids:=fun k o=>by
 obtain⟨m,y,P,rfl,_,U,_,_⟩:=h.kid j x b k o;exact⟨Ph,by rw[XU];exact(UU.1 U).1⟩
def ew.start:ew [gN ⟨#[]⟩] [[]] where
 len:=rfl
 root:=rfl
 kid:=fun j x b k o=>by
  cases j with
  |zero=>simp at b;subst b;cases o
  |succ j=>simp at b
 up:=fun m y K U=>by
  cases m with
  |zero=>omega
  |succ j=>simp at U
 nodup:=Pm
 perm:=by simp[gN]
def ew.kid_some{ns ps}(h:ew ns ps){x:Dv}{P:List ByteArray}{q:Int}(l:ns[j]?=Ts x)(d:ps[j]?=Ts P)(N:eT ns lab x.kids=Ts q):
  ∃m:Nat,q=(m:Int)/\j<m/\ps[m]?=Ts (P++[lab]):=by
 obtain⟨h1,y,c,A⟩:=qD N;obtain⟨m,r,p,rfl,o,f,b,g⟩:=h.kid j x l q h1;rw[XU,f]at c;cases c;rw[d]at b;cases b;exact⟨m,rfl,o,by rw[<-A];exact g⟩
def ew.kid_none{ns ps}(h:ew ns ps){x:Dv}{P:List ByteArray}(q:ns[j]?=Ts x)(p:ps[j]?=Ts P)(N:eT ns lab x.kids=U8):
  (P++[lab])∉ps:=by
 intro K;obtain⟨m,b⟩:=List.getElem?_of_mem K;have R:m<ns.length:=by rw[<-h.len];exact(UU.1 b).1
 have U:ns[m]?=Ts ns[m]:=V8 R;have L:0<m:=by
  rcases Ye m with rfl|L
  .rw[h.root]at b;simp at b
  exact L
 obtain⟨s,x',c,o⟩:=h.up m _ L U;obtain⟨g,r,z,e,A,y,l,d⟩:=h.kid s x' c _ o;obtain rfl:m=g:=Ph;rw[b]at d;simp only[Vw]at d;have t:=List.append_inj' d rfl;obtain⟨u,f⟩:=t;subst u;have:=rY h.nodup p l;subst this;rw[q]at c;cases c;have:=wU N _ o r (by rw[XU];exact y);simp at f;exact this f.symm
def iV(ns n):(sg ns n).length=ns.length:=by unfold sg;simp
def Fy(ns)(n j:Nat):(sg ns n)[j]?=(ns[j]?).map fun x=>if n=j then{x with kids:=x.kids++[(ns.length:Int)]}else x:=by
 unfold sg;rw[List.getElem?_modify];cases ns[j]? with
 |none=>simp
 |some x=>by_cases h:n=j<;>simp[h]
def fO(ns n lab):(j5 ns n lab).length=ns.length+1:=by unfold j5;simp[iV]
def qN(ns:List Dv)(n lab)(h:j<ns.length):(j5 ns n lab)[j]?=(ns[j]?).map fun x=>if n=j then{x with kids:=x.kids++[(ns.length:Int)]}else x:=by
 unfold j5;rw[X9 (by rw[iV];exact h),Fy]
def kg(ns n lab):(j5 ns n lab)[ns.length]?=Ts (gN lab):=by
 unfold j5;rw[WH (by rw[iV];exact UY _),iV];simp
def tR:∀(ns:List Dv)(n:Nat)(k:Int),n<ns.length->((ns.modify n fun x=>{x with kids:=x.kids++[k]}).flatMap (·.kids)).Perm (ns.flatMap (·.kids)++[k])
 |[],n,k,h=>QX
 |x::ns,0,k,h=>by
  simp only[List.modify_zero_cons,Vh,Ws];exact List.Perm.append_left _ List.perm_append_comm
 |x::ns,n+1,k,h=>by
  simp only[List.modify_succ_cons,Vh,Ws];exact List.Perm.append_left _ (tR ns n k QJ)
def ew.grow{ns ps}(h:ew ns ps){x:Dv}{P:List ByteArray}(r:ns[j]?=Ts x)(s:ps[j]?=Ts P)(N:eT ns lab x.kids=U8):
  ew (j5 ns j lab) (ps++[P++[lab]]):=by
 have t:j<ns.length:=(UU.1 r).1;have p:=h.kid_none r s N;have old:∀m Q,ps[m]?=Ts Q->(ps++[P++[lab]])[m]?=Ts Q:=fun m Q K=>by
  exact Zcc
 have d:∀m y,ns[m]?=Ts y->(j5 ns j lab)[m]?=Ts (if j=m then{y with kids:=y.kids++[(ns.length:Int)]}else y):=fun m y U=>by
  rw[qN _ _ _ (UU.1 U).1,U];rfl
 refine⟨by simp[fO,h.len],old 0 _ h.root,?_,?_,?_,?_⟩
 .intro i y U k o;have hi:i<(j5 ns j lab).length:=(UU.1 U).1;rw[fO]at hi;by_cases f:i<ns.length
  .have l:ns[i]?=Ts ns[i]:=V8 f;rw[d i _ l]at U;simp only[Vw]at U;have g:k∈(ns[i]).kids\/(j=i/\k=(ns.length:Int)):=by
    rw[<-U]at o;split at o
    .rename_i e
     rcases WD.1 o with o|o
     .exact .inl o
     exact .inr ⟨e,Za3⟩
    exact .inl o
   rcases g with g|⟨rfl,rfl⟩
   .obtain⟨m,z,Q,rfl,h1,c,A,u⟩:=h.kid i _ l k g;refine⟨m,_,Q,rfl,h1,d m z c,old _ _ A,?_⟩;rw[old _ _ u];split<;>rfl
   exact⟨ns.length,gN lab,P,rfl,f,kg _ _ _,old _ _ s,by rw[WH SP,h.len];simp[gN]⟩
  obtain rfl:i=ns.length:=by omega
  rw[kg]at U;cases U;cases o
 .intro m y K U;have q:m<(j5 ns j lab).length:=(UU.1 U).1;rw[fO]at q;by_cases f:m<ns.length
  .obtain⟨i,z,h1,c⟩:=h.up m _ K (V8 f);refine⟨i,_,d i z h1,?_⟩;split
   .exact Xz _ c
   exact c
  obtain rfl:m=ns.length:=by omega
  refine⟨j,_,d j x r,?_⟩;rw[if_pos rfl];simp
 .refine List.nodup_append.2 ⟨h.nodup,Pm,fun a B b hb e=>?_⟩;rw[VP]at hb;subst hb;subst e;exact p B
 rw[fO];have D:=tR ns j ns.length t;have e:(j5 ns j lab).flatMap (·.kids)=(ns.modify j fun x=>{x with kids:=x.kids++[(ns.length:Int)]}).flatMap (·.kids):=by
  unfold j5 sg;rw[Xw];simp[gN]
 rw[e];refine D.trans ?_;have C:ns.length+1-1=(ns.length-1)+1:=Ph;rw[C,List.range_succ,WK];have E:((ns.length-1+1:Nat):Int)=(ns.length:Int):=Ph;simp only[WI,Ym,E];exact h.perm.append_right _
def ew.step{ns ps}(h:ew ns ps){P:List ByteArray}(b:ps[n]?=Ts P)(lab:ByteArray):
  ∃f,ew (eG (ns,n) lab).1 (ps++f)/\(ps++f)[(eG (ns,n) lab).2]?=Ts (P++[lab])/\
   (∀(m:Nat)(y:Dv),ns[m]?=Ts y->∃d:Dv,(eG (ns,n) lab).1[m]?=Ts d/\d.here'=y.here'/\d.below=y.below)/\
   (∀(m:Nat)(y:Dv),(eG (ns,n) lab).1[m]?=Ts y->ns.length<=m->y.here'=-1/\y.below=-1):=by
 have hn:n<ns.length:=by rw[<-h.len];exact(UU.1 b).1
 have c:ns[n]?=Ts ns[n]:=V8 hn;unfold eG;simp only[c];cases N:eT ns lab (ns[n]).kids with
 |some q=>
  obtain⟨m,rfl,_,K⟩:=h.kid_some c b N;refine⟨[],QJ,?_,fun m y U=>⟨y,U,rfl,rfl⟩,fun m y U p=>?_⟩
  .simp only[XU,Ww];exact K
  have:=(UU.1 U).1;simp only at this;omega
 |none=>
  refine⟨[P++[lab]],h.grow c b N,?_,fun m y U=>⟨_,(by rw[qN _ _ _ (UU.1 U).1,U];rfl),?_,?_⟩,fun m y U p=>?_⟩
  .simp only;rw[WH SP,h.len];simp
  .split<;>rfl
  .split<;>rfl
  have:=(UU.1 U).1;simp only[fO]at this;obtain rfl:m=ns.length:=Ph;simp only[kg]at U;cases U;exact⟨rfl,rfl⟩
def ew.down:∀(ls:List ByteArray){ns:List Dv}{ps:List (List ByteArray)}(_:ew ns ps){n:Nat}{P:List ByteArray}(_:ps[n]?=Ts P),
  ∃b,ew (ls.foldl eG (ns,n)).1 (ps++b)/\(ps++b)[(ls.foldl eG (ns,n)).2]?=Ts (P++ls)/\
   (∀(m:Nat)(y:Dv),ns[m]?=Ts y->∃g:Dv,(ls.foldl eG (ns,n)).1[m]?=Ts g/\g.here'=y.here'/\g.below=y.below)/\
   (∀(m:Nat)(y:Dv),(ls.foldl eG (ns,n)).1[m]?=Ts y->ns.length<=m->y.here'=-1/\y.below=-1)
 |[],ns,ps,h,n,P,d=>⟨[],QJ,by simpa using d,fun m y U=>⟨y,U,rfl,rfl⟩,fun m y U p=>by
   have:=(UU.1 U).1
   simp only[List.foldl_nil]at this;omega⟩
 |lab::ls,ns,ps,h,n,P,d=>by
  obtain⟨b,h1,c,A,q⟩:=h.step d lab;obtain⟨rs,g1,g2,g3,g4⟩:=ew.down ls h1 c;have l:(lab::ls).foldl eG (ns,n)=ls.foldl eG ((eG (ns,n) lab).1,(eG (ns,n) lab).2):=rfl;rw[l];refine⟨b++rs,by rw[<-Ws];exact g1,by rw[<-Ws,g2];simp,fun m y U=>?_,fun m y U p=>?_⟩
  .obtain⟨o,a1,a2,a3⟩:=A m y U;obtain⟨j,b1,b2,f⟩:=g3 m o a1;exact⟨j,b1,b2.trans a2,f.trans a3⟩
  by_cases K:m<(eG (ns,n) lab).1.length
  .obtain⟨j,b1,b2,f⟩:=g3 m _ (V8 K);rw[U]at b1;cases b1;obtain⟨c1,c2⟩:=q m _ (V8 K) p;exact⟨b2.trans c1,f.trans c2⟩
  exact g4 m y U Ph
def nO(ns n wide i):(nG ns n wide i).length=ns.length:=by unfold nG;simp
def iA(ns n wide i)(j:Nat):(nG ns n wide i)[j]?=(ns[j]?).map fun x=>if n=j then(if wide then{x with below:=i}else{x with here':=i})else x:=by
 unfold nG;rw[List.getElem?_modify];cases ns[j]? with
 |none=>simp
 |some x=>by_cases h:n=j<;>simp[h]
def yy{ns wide i}{x:Dv}(h:(nG ns n wide i)[j]?=Ts x):∃y,ns[j]?=Ts y/\y.kids=x.kids/\y.label=x.label:=by
 rw[iA]at h;cases U:ns[j]? with
 |none=>rw[U]at h;cases h
 |some y=>
  rw[U]at h;simp only[Wm,Vw]at h;refine⟨y,rfl,?_,?_⟩<;>rw[<-h]<;>split<;>(try split)<;>rfl
def zv{ns wide i}{y:Dv}(h:ns[j]?=Ts y):∃x,(nG ns n wide i)[j]?=Ts x/\y.kids=x.kids/\y.label=x.label:=by
 refine⟨_,by rw[iA,h];rfl,?_,?_⟩<;>split<;>(try split)<;>rfl
def J9(ns n wide i):(nG ns n wide i).flatMap (·.kids)=ns.flatMap (·.kids):=by
 unfold nG;induction ns generalizing n with
 |nil=>cases n<;>rfl
 |cons x ns b=>
  cases n with
  |zero=>
   simp only[List.modify_zero_cons,Vh];congr 1;split<;>rfl
  |succ n=>simp only[List.modify_succ_cons,Vh];rw[b]
def ew.set{ns ps}(h:ew ns ps)(n wide i):ew (nG ns n wide i) ps:=by
 refine⟨by rw[nO];exact h.len,h.root,fun j x f k o=>?_,fun m y K U=>?_,h.nodup,by rw[J9,nO];exact h.perm⟩
 .obtain⟨x',d,am,q⟩:=yy f;obtain⟨m,y,P,rfl,h1,c,A,p⟩:=h.kid j x' d k (by rw[am];exact o);obtain⟨g,b,_,l⟩:=zv (n:=n) (wide:=wide) (i:=i) c;exact⟨m,g,P,rfl,h1,b,A,by rw[<-l];exact p⟩
 obtain⟨g,b,_,_⟩:=yy U;obtain⟨j,x,f,o⟩:=h.up m g K b;obtain⟨x',d,am,_⟩:=zv (n:=n) (wide:=wide) (i:=i) f;exact⟨j,x',d,by rw[<-am];exact o⟩
def Cv:List au->au
 |[]=>[]
 |[x]=>x
 |x::y::l=>x++46::Cv (y::l)
def yO(s:au):Cv (cut s)=s:=by
 induction s with
 |nil=>rfl
 |cons c t d=>
  unfold cut;split
  .rename_i J
   cases h:cut t with
   |nil=>exact absurd h (wg t)
   |cons a b=>rw[h]at d;rw[Cv,d,J];rfl
  split
  .rename_i h;exact absurd h (wg t)
  rename_i h r u
  rw[u]at d;cases r with
  |nil=>rw[Cv]at d⊢;rw[d]
  |cons a b=>rw[Cv]at d⊢;rw[<-d];rfl
def acZ{s t:au}(h:cut s=cut t):s=t:=by rw[<-yO s,<-yO t,h]
def pR:∀{a b:List au},a.map (fun x=>(⟨x.toArray⟩:ByteArray))=b.map (fun x=>(⟨x.toArray⟩:ByteArray))->a=b
 |[],[],_=>rfl
 |[],_::_,h=>QX
 |_::_,[],h=>QX
 |x::a,y::b,h=>by
  simp only[WI,Yq]at h;have e:x=y:=by
   have:=congrArg (fun z:ByteArray=>z.data.toList) h.1;simpa using this
  rw[e,pR h.2]
def qS{s t:au}(h:jj s=jj t):s=t:=by
 unfold jj at h;exact acZ (by have:=congrArg List.reverse (pR h);simpa using this)
def ac8(s:au):jj s≠[]:=by
 unfold jj;simp[wg]
def K9(s:au):(∀c∈s,c≠(46:UInt8))\/∃x t,s=x++46::t/\∀c∈x,c≠(46:UInt8):=by
 induction s with
 |nil=>exact .inl Pm
 |cons c t b=>
  by_cases J:c=46
  .subst J;exact .inr ⟨[],t,rfl,Pm⟩
  rcases b with h|⟨x,u,rfl,h⟩
  .exact .inl fun d y=>(VN.1 y).elim (fun e=>e▸J) (h d)
  exact .inr ⟨c::x,u,rfl,fun d y=>(VN.1 y).elim (fun e=>e▸J) (h d)⟩
def Jg{s:au}(h:∀c∈s,c≠(46:UInt8)):cut s=[s]/\fA s=[]:=by
 induction s with
 |nil=>exact⟨rfl,rfl⟩
 |cons c t f=>
  have J:c≠46:=h c Pm;obtain⟨h1,b⟩:=f fun d y=>h d (by simp[y]);refine⟨?_,?_⟩
  .rw[cut,if_neg J,h1]
  rw[fA,if_neg J,b]
def acD{s:au}(h:gX s=true):(up s=[]/\∃x,jj s=[x])\/(up s≠[]/\gX (up s)=true/\∃x,jj s=jj (up s)++[x]):=by
 rcases K9 s with y|⟨x,t,rfl,m⟩
 .obtain⟨h1,c⟩:=Jg y;refine .inl ⟨by unfold up;rw[h,if_pos rfl,c],⟨s.toArray⟩,?_⟩;unfold jj;rw[h1];rfl
 have c:=abR m h;obtain⟨_,A,_,_⟩:=(L9 m).1 h;rw[c];refine .inr ⟨?_,A,⟨x.toArray⟩,?_⟩
 .rintro rfl;rw[acM]at A;cases A
 unfold jj;rw[DU m];simp
def wz:∀(n:Nat){s u:au},s.length<n->gX s=true->(u∈eB s↔∃t,t≠[]/\jj s=jj u++t)
 |0,_,_,h,_=>absurd h (YG _)
 |n+1,s,u,h,z=>by
  rcases acD z with⟨X,x,m⟩|⟨X,hb,x,m⟩
  .rw[iP X];constructor
   .intro h;cases h
   rintro⟨t,b,e⟩;rw[m]at e;have:=congrArg Xt e;have h1:=YL.2 b;have c:=YL.2 (ac8 u);simp at this;omega
  rw[gQ X,VN,wz n (by have:=vh s X;omega) hb];constructor
  .rintro(rfl|⟨t,b,e⟩)
   .exact⟨[x],Pm,m⟩
   exact⟨t++[x],Pm,by rw[m,e,Ws]⟩
  rintro⟨t,b,e⟩;rw[m]at e;have p:t=t.dropLast++[t.getLast b]:=(List.dropLast_concat_getLast b).symm;rw[p,<-Ws]at e;have am:=(List.append_inj' e rfl).1;by_cases y:t.dropLast=[]
  .rw[y,Ww]at am;exact .inl (qS am).symm
  exact .inr ⟨_,y,am⟩
def sE{s u:au}(z:gX s=true):u∈eB s↔∃t,t≠[]/\jj s=jj u++t:=wz _ (Nat.lt_succ_self _) z
def yA{q}(h:ed p=ed q)(z:cD p.data.toList=cD q.data.toList):p=q:=by
 have e:Mp p=Mp q:=qS h;unfold Mp at e;cases N:cD q.data.toList
 .rw[z,N]at e;exact ez (by simpa using e)
 rw[z,N]at e;have x:=z.trans N;obtain⟨a,c,_⟩:=iT x;obtain⟨b,hb,_⟩:=iT N;rw[c,hb]at e;refine ez ?_;rw[c,hb];simp at e;rw[e]
def mZ(h:cD p.data.toList=true):ed p=jj (eQ p.data.toList):=by
 unfold ed Mp;rw[if_pos h,oZ h]
def wd(h:cD p.data.toList=false):ed p=jj p.data.toList:=by
 unfold ed Mp;rw[h];rfl
def vD(ns:List Dv)(ps:List (List ByteArray))(Q:List ByteArray)(v:Int):Prop:=∃(j:Nat)(x:Dv),ps[j]?=Ts Q/\ns[j]?=Ts x/\x.here'=v/\v≠-1
def mT(ns:List Dv)(ps:List (List ByteArray))(Q:List ByteArray)(v:Int):Prop:=∃(j:Nat)(x:Dv),ps[j]?=Ts Q/\ns[j]?=Ts x/\x.below=v/\v≠-1
structure jC(ns:List Dv)(ps:List (List ByteArray))(D:ByteArray->Nat->Prop):Prop where
 here_of:∀p i,D p i->cD p.data.toList=false->vD ns ps (ed p) i
 below_of:∀p i,D p i->cD p.data.toList=true->mT ns ps (ed p) i
 of_here:∀Q v,vD ns ps Q v->∃p i,D p i/\cD p.data.toList=false/\ed p=Q/\v=(i:Nat)
 of_below:∀Q v,mT ns ps Q v->∃p i,D p i/\cD p.data.toList=true/\ed p=Q/\v=(i:Nat)
def jC.start:jC [gN ⟨#[]⟩] [[]] (fun _ _=>False) where
 here_of:=fun _ _ h=>h.elim
 below_of:=fun _ _ h=>h.elim
 of_here:=by
  rintro Q v⟨j,x,_,c,A,b⟩;cases j with
  |zero=>simp at c;subst c;exact absurd A.symm b
  |succ j=>simp at c
 of_below:=by
  rintro Q v⟨j,x,_,c,A,b⟩;cases j with
  |zero=>simp at c;subst c;exact absurd A.symm b
  |succ j=>simp at c
def jC.put{ns:List Dv}{ps:List (List ByteArray)}{D:ByteArray->Nat->Prop}(H:ew ns ps)(h:jC ns ps D)(p:ByteArray)(i:Nat)(s:∀q j,D q j->q≠p):
  ∃t,ew (sK ns p i) t/\jC (sK ns p i) t fun q j=>D q j\/q=p/\j=i:=by
 obtain⟨u,G,o,t3,t4⟩:=H.down (ed p) H.root;rw[Vd]at o;unfold sK oN;generalize J:(ed p).foldl eG (ns,0)=st at*;obtain⟨g,n⟩:=st;simp only at G o t3 t4⊢;refine⟨ps++u,G.set n _ _,?_⟩;have hn:n<g.length:=by rw[<-G.len];exact(UU.1 o).1
 have old:∀m Q,ps[m]?=Ts Q->(ps++u)[m]?=Ts Q:=fun m Q K=>by
  exact Zcc
 have keep:∀(j:Nat)(Q:List ByteArray)(x:Dv),(ps++u)[j]?=Ts Q->g[j]?=Ts x->∃y,(nG g n (cD p.data.toList) i)[j]?=Ts y/\(j=n\/y=x):=fun j Q x _ f=>by
  refine⟨_,by rw[iA,f];rfl,?_⟩;by_cases e:n=j
  .exact .inl e.symm
  exact .inr (if_neg e)
 have b:∀(j:Nat)(Q:List ByteArray)(x:Dv),(ps++u)[j]?=Ts Q->g[j]?=Ts x->(x.here'≠-1\/x.below≠-1)->∃y,ps[j]?=Ts Q/\ns[j]?=Ts y/\x.here'=y.here'/\x.below=y.below:=fun j Q x I f zs=>by
  by_cases B:j<ns.length
  .obtain⟨L,a1,a2,a3⟩:=t3 j _ (V8 B);rw[f]at a1;cases a1;rw[X9 (by rw[H.len];exact B)]at I;exact⟨_,I,V8 B,a2,a3⟩
  obtain⟨a1,a2⟩:=t4 j x f Ph;rcases zs with h|h
  .exact absurd a1 h
  exact absurd a2 h
 have l:g[n]?=Ts g[n]:=V8 hn;cases r:cD p.data.toList
 .rw[r]at keep;have E:(nG g n false i)[n]?=Ts {g[n]with here':=(i:Int)}:=by rw[iA,l];simp
  refine⟨?_,?_,?_,?_⟩
  .rintro q j(C|⟨rfl,rfl⟩) N
   .obtain⟨m,x,h1,c,A,d⟩:=h.here_of q j C N;obtain⟨y,b1,b2,_⟩:=t3 m x c;exact U2
   exact⟨n,_,o,E,rfl,Ph⟩
  .rintro q j(C|⟨rfl,rfl⟩) N
   .obtain⟨m,x,h1,c,A,d⟩:=h.below_of q j C N;obtain⟨y,b1,_,b2⟩:=t3 m x c;exact Tz
   rw[r]at N;cases N
  .rintro Q v⟨j,x,h1,c,A,d⟩;by_cases e:j=n
   .exact Ul
   rw[iA]at c;cases f:g[j]? with
   |none=>rw[f]at c;cases c
   |some y=>
    rw[f]at c;simp only[Wm,Vw]at c;rw[if_neg (fun F=>e F.symm)]at c;subst c;obtain⟨z,a1,a2,a3,_⟩:=b j Q y h1 f (.inl (by rw[A];exact d));obtain⟨q,k,C,g1,g2,g3⟩:=h.of_here Q v ⟨j,z,a1,a2,by rw[<-a3];exact A,d⟩;exact Ut
  rintro Q v⟨j,x,h1,c,A,d⟩;rw[iA]at c;cases f:g[j]? with
  |none=>rw[f]at c;cases c
  |some y=>
   rw[f]at c;simp only[Wm,Vw]at c;have hb:y.below=v:=by
    rw[<-c]at A;split at A<;>exact A
   obtain⟨z,a1,a2,_,a3⟩:=b j Q y h1 f (.inr (by rw[hb];exact d));obtain⟨q,k,C,g1,g2,g3⟩:=h.of_below Q v ⟨j,z,a1,a2,by rw[<-a3];exact hb,d⟩;exact Ut
 rw[r]at keep;have E:(nG g n true i)[n]?=Ts {g[n]with below:=(i:Int)}:=by rw[iA,l];simp
 refine⟨?_,?_,?_,?_⟩
 .rintro q j(C|⟨rfl,rfl⟩) N
  .obtain⟨m,x,h1,c,A,d⟩:=h.here_of q j C N;obtain⟨y,b1,b2,_⟩:=t3 m x c;exact Tz
  rw[r]at N;cases N
 .rintro q j(C|⟨rfl,rfl⟩) N
  .obtain⟨m,x,h1,c,A,d⟩:=h.below_of q j C N;obtain⟨y,b1,_,b2⟩:=t3 m x c;exact U2
  exact⟨n,_,o,E,rfl,Ph⟩
 .rintro Q v⟨j,x,h1,c,A,d⟩;rw[iA]at c;cases f:g[j]? with
  |none=>rw[f]at c;cases c
  |some y=>
   rw[f]at c;simp only[Wm,Vw]at c;have hb:y.here'=v:=by
    rw[<-c]at A;split at A<;>exact A
   obtain⟨z,a1,a2,a3,_⟩:=b j Q y h1 f (.inl (by rw[hb];exact d));obtain⟨q,k,C,g1,g2,g3⟩:=h.of_here Q v ⟨j,z,a1,a2,by rw[<-a3];exact hb,d⟩;exact Ut
 rintro Q v⟨j,x,h1,c,A,d⟩;by_cases e:j=n
 .exact Ul
 rw[iA]at c;cases f:g[j]? with
 |none=>rw[f]at c;cases c
 |some y=>
  rw[f]at c;simp only[Wm,Vw]at c;rw[if_neg (fun F=>e F.symm)]at c;subst c;obtain⟨z,a1,a2,_,a3⟩:=b j Q y h1 f (.inr (by rw[A];exact d));obtain⟨q,k,C,g1,g2,g3⟩:=h.of_below Q v ⟨j,z,a1,a2,by rw[<-a3];exact A,d⟩;exact Ut
def jC.congr{ns ps}{D E:ByteArray->Nat->Prop}(h:jC ns ps D)(e:∀p i,D p i↔E p i):jC ns ps E where
 here_of:=fun p i g=>h.here_of p i ((e p i).2 g)
 below_of:=fun p i g=>h.below_of p i ((e p i).2 g)
 of_here:=fun Q v b=>by obtain⟨p,i,C,r⟩:=h.of_here Q v b;exact⟨p,i,(e p i).1 C,r⟩
 of_below:=fun Q v b=>by obtain⟨p,i,C,r⟩:=h.of_below Q v b;exact⟨p,i,(e p i).1 C,r⟩
def jC.putAll:∀(d:List ByteArray){ns:List Dv}{ps:List (List ByteArray)}{D:ByteArray->Nat->Prop}(_:ew ns ps)(_:jC ns ps D)(_:d.Nodup)(_:∀q j,D q j->q∉d),
  ∃f,ew (gk ns d i) f/\jC (gk ns d i) f fun q j=>D q j\/q∈d/\j=i
 |[],ns,ps,D,l,h,_,_=>⟨ps,l,h.congr fun p j=>Pm⟩
 |p::d,ns,ps,D,l,h,m,c=>by
  obtain⟨n1,n2⟩:=List.nodup_cons.1 m;obtain⟨r,t,s⟩:=jC.put l h p i fun q j C e=>c q j C (by rw[e];simp);obtain⟨g,o,v2⟩:=jC.putAll d t s n2 fun q j C N=>by
   rcases C with C|⟨rfl,_⟩
   .exact c q j C (WW _ N)
   exact n1 N
  refine⟨g,o,v2.congr fun q j=>?_⟩;rw[VN];constructor
  .rintro((C|⟨a,b⟩)|⟨a,b⟩)
   .exact .inl C
   .exact .inr ⟨.inl a,b⟩
   exact .inr ⟨.inr a,b⟩
  rintro(C|⟨a|a,b⟩)
  .exact .inl (.inl C)
  .exact .inl (.inr ⟨a,b⟩)
  exact .inr ⟨a,b⟩
def s7:∀{l b:List ByteArray},fh b l=true->l.Nodup/\∀p∈l,vk p=true/\p∉b
 |[],_,_=>Pm
 |p::l,b,h=>by
  rw[fh,V7,V7,Wh]at h;obtain⟨⟨h1,c⟩,A⟩:=h;obtain⟨g1,g2⟩:=s7 A;have d:p∉b:=fun K=>TH;refine⟨List.nodup_cons.2 ⟨fun K=>(g2 p K).2 Pm,g1⟩,fun q N=>?_⟩;rcases VN.1 N with rfl|N
  .exact⟨h1,d⟩
  exact⟨(g2 q N).1,fun K=>(g2 q N).2 (Xz _ K)⟩
def mW:∀{l:List b7}{b:List ByteArray},dI b l=true->(l.map (·.name)).Nodup/\∀r∈l,lR r=true/\r.name∉b
 |[],_,_=>Pm
 |r::l,b,h=>by
  rw[dI,V7,V7,Wh]at h;obtain⟨⟨h1,c⟩,A⟩:=h;obtain⟨g1,g2⟩:=mW A;have d:r.name∉b:=fun K=>TH;refine⟨?_,fun q N=>?_⟩
  .rw[WI];refine List.nodup_cons.2 ⟨fun K=>?_,g1⟩;obtain⟨q,N,e⟩:=Wl.1 K;exact(g2 q N).2 (by rw[e];simp)
  rcases VN.1 N with rfl|N
  .exact⟨h1,d⟩
  exact⟨(g2 q N).1,fun K=>(g2 q N).2 (Xz _ K)⟩
def ET{r}(h:lR r=true):r.pats.Nodup/\∀p∈r.pats,cX p.data.toList=true:=by
 unfold lR at h;simp only[V7]at h;obtain⟨h1,c⟩:=s7 h.1.2;exact⟨h1,fun p x=>by have:=(c p x).1;unfold vk at this;rwa[Fu]at this⟩
def sS{l}(h:gG l=0):dI [] l=true/\l.length<=32:=by
 unfold gG at h;split at h
 .rename_i u
  split at h
  .rename_i p;exact⟨u,p⟩
  cases h
 cases h
structure tp(l:List b7):Prop where
 ok:gG l=0
 free:gE l=[]
def xh{l}:bL l=0↔tp l:=by
 unfold bL;constructor
 .intro h;split at h
  .rename_i J
   split at h
   .rename_i b;exact⟨J,b⟩
   cases h
  rename_i J;exact absurd h J
 rintro⟨h1,c⟩;rw[if_pos h1,if_pos c]
def tp.pats{l}(h:tp l){r:b7}(u:r∈l):r.pats.Nodup/\∀p∈r.pats,cX p.data.toList=true:=
 ET ((mW (sS h.ok).1).2 r u).1
def ajM(l:List b7)(k:Nat)(p:ByteArray)(i:Nat):Prop:=∃r,i<k/\l[i]?=Ts r/\p∈r.pats
def Ah{l}(h:tp l):∀(k:Nat),k<=l.length->∃ps,ew (ce l k) ps/\jC (ce l k) ps (ajM l k)
 |0,_=>⟨_,ew.start,jC.start.congr fun p i=>⟨fun h=>h.elim,fun⟨_,h,_⟩=>absurd h (YG _)⟩⟩
 |k+1,o=>by
  obtain⟨ps,t,v⟩:=Ah h k Ph;have u:l[k]?=Ts (l[k]'Ph):=V8 Ph;rw[ce,u];simp only;obtain⟨f,m,g⟩:=jC.putAll (i:=k) (l[k]'Ph).pats t v (h.pats (Uv u)).1 fun q j⟨r,Q,d,N⟩b=>by
   have:=DT h.free d u N b;omega
  refine⟨f,m,g.congr fun p i=>?_⟩;constructor
  .rintro(⟨r,h1,c,A⟩|⟨h1,rfl⟩)
   .exact⟨r,Ph,c,A⟩
   exact⟨_,Ph,u,h1⟩
  rintro⟨r,h1,c,A⟩;by_cases e:i=k
  .subst e;rw[u]at c;cases c;exact .inr ⟨A,rfl⟩
  exact .inl ⟨r,Ph,c,A⟩
def ew.closed{ns ps}(h:ew ns ps):∀(b:List ByteArray){Q:List ByteArray},Q++b∈ps->Q∈ps:=by
 have one:∀(Q:List ByteArray)(x:ByteArray),Q++[x]∈ps->Q∈ps:=fun Q x K=>by
  obtain⟨m,c⟩:=List.getElem?_of_mem K;have R:m<ns.length:=by rw[<-h.len];exact(UU.1 c).1
  have L:0<m:=by
   rcases Ye m with rfl|L
   .rw[h.root]at c;simp at c
   exact L
  obtain⟨p,x',g,o⟩:=h.up m _ L (V8 R);obtain⟨j,u,t,e,r,s,q,d⟩:=h.kid p x' g _ o;obtain rfl:m=j:=Ph;rw[c]at d;simp only[Vw]at d;rw[(List.append_inj' d rfl).1];exact Uv q
 intro b;induction b with
 |nil=>intro Q f;simpa using f
 |cons x b l=>
  intro Q f;exact one Q x (l Rz)
def Co{ns ps}(h:ew ns ps):∀(ls:List ByteArray){n:Nat}{P:List ByteArray}(last:Int),ps[n]?=Ts P->
  (∃v,vD ns ps (P++ls) v/\Bu ns ls n last=v)\/((∀v,¬vD ns ps (P++ls) v)/\
   ((∃a c v,ls=a++c/\c≠[]/\mT ns ps (P++a) v/\Bu ns ls n last=v/\∀d l p,ls=d++l->l≠[]->mT ns ps (P++d) p->d.length<=a.length)\/
    (Bu ns ls n last=last/\∀a c v,ls=a++c->c≠[]->¬mT ns ps (P++a) v)))
 |[],n,P,last,r=>by
  have hn:n<ns.length:=by rw[<-h.len];exact(UU.1 r).1
  have s:ns[n]?=Ts ns[n]:=V8 hn;rw[Bu,s,Ww];simp only;by_cases e:(ns[n]).here'=-1
  .rw[if_pos e];refine .inr ⟨?_,.inr ⟨rfl,fun a c v h1 o=>(absurd (List.append_eq_nil_iff.1 h1.symm).2 o)⟩⟩;rintro v⟨j,x,g1,g2,g3,g4⟩;have:=rY h.nodup r g1;subst this;rw[s]at g2;cases g2;exact g4 (g3.symm.trans e)
  rw[if_neg e];exact .inl ⟨_,⟨n,_,r,s,rfl,e⟩,rfl⟩
 |lab::ls,n,P,last,r=>by
  have hn:n<ns.length:=by rw[<-h.len];exact(UU.1 r).1
  have s:ns[n]?=Ts ns[n]:=V8 hn;rw[Bu,s];simp only;have f:∀v,mT ns ps (P++[]) v↔((ns[n]).below=v/\v≠-1):=fun v=>by
   rw[Ww];constructor
   .rintro⟨j,x,g1,g2,g3,g4⟩;have:=rY h.nodup r g1;subst this;rw[s]at g2;cases g2;exact⟨g3,g4⟩
   rintro⟨g1,g2⟩;exact⟨n,_,r,s,g1,g2⟩
  cases N:eT ns lab (ns[n]).kids with
  |none=>
   simp only;have A:=h.kid_none s r N;have t:∀b,P++lab::b∉ps:=fun b hb=>A (h.closed b (by simpa using hb));refine .inr ⟨?_,?_⟩
   .rintro v⟨j,x,g1,_⟩;exact t ls (Uv g1)
   by_cases e:(ns[n]).below=-1
   .rw[if_pos e];refine .inr ⟨rfl,fun a c v h1 o g=>?_⟩;cases a with
    |nil=>obtain⟨g1,g2⟩:=(f v).1 g;exact g2 (g1.symm.trans e)
    |cons z a=>
     injection h1 with am y
     subst am;obtain⟨j,x,g1,_⟩:=g;exact t a (Uv g1)
   rw[if_neg e];refine .inl ⟨[],lab::ls,_,rfl,Pm,(f _).2 ⟨rfl,e⟩,rfl,fun d l p h1 o g=>?_⟩;cases d with
   |nil=>simp
   |cons z a=>
    injection h1 with am y
    subst am;obtain⟨j,x,g1,_⟩:=g;exact absurd (Uv g1) (t a)
  |some q=>
   simp only;obtain⟨m,rfl,_,K⟩:=h.kid_some s r N;rw[XU];have u:=Co h ls (if(ns[n]).below=-1 then last else(ns[n]).below) K;rw[show P++[lab]++ls=P++lab::ls from Pm]at u;rcases u with u|⟨B,u⟩
   .exact .inl u
   refine .inr ⟨B,?_⟩;rcases u with⟨a,c,v,am,y,D,E,C⟩|⟨am,y⟩
   .refine .inl ⟨lab::a,c,v,by rw[am];rfl,y,by rwa[show P++[lab]++a=P++lab::a from Pm]at D,E,fun d l p h1 o g=>?_⟩;cases d with
    |nil=>simp
    |cons z d=>
     injection h1 with f1 f2
     subst f1;have:=C d l p f2 o SN;simp only[Up];omega
   rw[am];have none':∀z d l p,lab::ls=(z::d)++l->l≠[]->¬mT ns ps (P++z::d) p:=fun z d l p h1 o g=>by
    injection h1 with f1 f2
    subst f1;exact y d l p f2 o SN
   by_cases e:(ns[n]).below=-1
   .rw[if_pos e];refine .inr ⟨rfl,fun a c v h1 o g=>?_⟩;cases a with
    |nil=>obtain⟨g1,g2⟩:=(f v).1 g;exact g2 (g1.symm.trans e)
    |cons z a=>exact none' z a c v h1 o g
   rw[if_neg e];refine .inl ⟨[],lab::ls,_,rfl,Pm,(f _).2 ⟨rfl,e⟩,rfl,fun d l p h1 o g=>?_⟩;cases d with
   |nil=>simp
   |cons z d=>exact absurd g (none' z d l p h1 o)
def Ly{l}(h:tp l)(z:gX nm.data.toList=true):pd l nm (mg (ef l) nm):=by
 obtain⟨ps,t,v⟩:=Ah h l.length (UY _);have only:∀{i:Nat}{r:b7}{p:ByteArray},l[i]?=Ts r->p∈r.pats->∀(j:Nat)(D:b7),j<i->l[j]?=Ts D->p∉D.pats:=fun u x j D Q s L=>by
  have:=DT h.free u s x L;omega
 have o:∀{r:b7}{q:ByteArray},r∈l->q∈r.pats->∃i,ajM l l.length q i:=fun u N=>by
  obtain⟨i,hi⟩:=List.getElem?_of_mem u;exact⟨i,_,(UU.1 hi).1,hi,N⟩
 have m:∀{q:ByteArray},cD q.data.toList=true->b9 q.data.toList nm.data.toList=true->∃c,c≠[]/\jj nm.data.toList=ed q++c:=fun N K=>by
  rw[eJ N,V7]at K;rw[mZ N];exact(sE z).1 (cG.1 K.2)
 have S:=Co t (jj nm.data.toList) (n:=0) (P:=[]) (-1) t.root;simp only[Vd]at S;unfold mg;have f:(∀w,¬vD (ef l) ps (jj nm.data.toList) w)->∀r∈l,∀q∈r.pats,b9 q.data.toList nm.data.toList=true->cD q.data.toList=true:=fun A r u q N K=>by
  cases b:cD q.data.toList
  .exfalso;obtain⟨i,hi⟩:=o u N;have M:=v.here_of q i hi b;rw[wd b]at M;have O:gX q.data.toList=true:=by
    rcases cO ((h.pats u).2 q N)with e|e
    .exact e
    rw[b]at e;cases e
   rw[d8 O,V7,beq_iff_eq]at K;rw[K.2]at M;exact A _ M
  rfl
 rcases S with⟨w,U,e⟩|⟨A,⟨a,c,w,am,V,W,e,G⟩|⟨e,B⟩⟩
 .obtain⟨p,i,⟨r,_,u,x⟩,g1,g2,g3⟩:=v.of_here _ _ U;have J:p=nm:=ez (qS (by rw[<-g2,wd g1]));subst J;refine .inr ⟨i,r,p,e.trans g3,u,x,by rw[d8 z,z];simp,fun D s q N K=>?_,only u x⟩;rw[dG z ((h.pats s).2 q N)];exact K
 .obtain⟨p,i,⟨r,_,u,x⟩,g1,g2,g3⟩:=v.of_below _ _ W;have R:b9 p.data.toList nm.data.toList=true:=by
   rw[eJ g1,z,Wo,cG,sE z];exact⟨c,V,by rw[<-mZ g1,g2];exact am⟩
  refine .inr ⟨i,r,p,e.trans g3,u,x,R,fun D s q N K=>?_,only u x⟩;have b:=f A D s q N K;obtain⟨I,C,g⟩:=m b K;obtain⟨j,Q⟩:=o s N;have E:=G (ed q) I j g C (v.below_of q j Q b);rw[bR g1 (by unfold cX;rw[b];rfl),b,Wo,WU,beq_iff_eq,cG,sE (sZ g1).1];have F:ed q++I=a++c:=by rw[<-g,<-am]
  obtain⟨d,y⟩:∃d,a=ed q++d:=by
   have h1:ed q<+:a++c:=⟨I,F⟩;have T:a<+:a++c:=⟨c,rfl⟩;obtain⟨d,y⟩:=List.prefix_of_prefix_length_le h1 T E;exact⟨d,y.symm⟩
  rw[<-g2]at y;rw[mZ g1,mZ b]at y;by_cases H:d=[]
  .rw[H,Ww]at y;exact .inl (qS y)
  exact .inr ⟨d,H,y⟩
 refine .inl ⟨e,fun r u q N=>?_⟩;rw[Xm];intro K;have b:=f A r u q N K;obtain⟨I,C,g⟩:=m b K;obtain⟨j,Q⟩:=o u N;exact B (ed q) I j g C (v.below_of q j Q b)
def adN{l}(h:tp l)(z:gX nm.data.toList=true):mg (ef l) nm=zY l nm:=(Ly h z).unique (zG z)
structure yZ where
 account:Int
 names:List ByteArray
 key:Int
 life:Int
def eZ(f:ByteArray->Bool):List ByteArray->List ByteArray->Bool
 |_,[]=>true
 |ahead,p::l=>f p&& !iI ahead p&&eZ f (ahead++[p]) l
def tU(f:ByteArray->Bool):∀(l a:List ByteArray)(p:ByteArray),eZ f a (l++[p])=(eZ f a l&&(f p&& !iI (a++l) p))
 |[],a,p=>by simp[eZ]
 |x::l,a,p=>by
  rw[Vu,eZ,eZ,tU f l (a++[x]) p];simp[Bool.and_assoc]
def tu{f:ByteArray->Bool}(h:l[k]?=Ts p):eZ f [] (l.take (k+1))=(eZ f [] (l.take k)&&(f p&& !iI (l.take k) p)):=by
 rw[Xk,h,Option.toList_some,tU,Vd]
def Au{f:ByteArray->Bool}:∀{k:Nat},eZ f [] (l.take k)=false->eZ f [] l=false:=fun{k}h=>by
 by_cases o:k<l.length
 .have key:∀(m:Nat),eZ f [] (l.take (k+m))=false:=fun m=>by
   induction m with
   |zero=>exact h
   |succ m b=>
    by_cases K:k+m<l.length
    .rw[show k+(m+1)=k+m+1 from rfl,tu (V8 K),b];rfl
    exact Uq
  exact UC
 exact Zci
def ad8(s:ByteArray):Bool:=gX s.data.toList
def lU(v:yZ):Bool:=eZ ad8 [] v.names&&((decide (0<=v.account)&&decide (v.account<=1099511627776))&&(decide (0<=v.life)&&decide (v.life<=1099511627776))&&decide (1<=v.names.length)&&decide (v.names.length<=8))
structure aj8 where
 allow:Bool
 at':Int
 by':List Int
def afW{x y:aj8}:x=y↔(x.allow=y.allow/\x.at'=y.at'/\x.by'=y.by'):=by
 cases x;cases y;simp
instance:DecidableEq aj8:=fun _ _=>decidable_of_iff _ afW.symm
def Ew(l:List b7)(v:yZ)(k:Int):Bool:=match l[k.toNat]? with
 |some r=>decide (0<=k)&&r.allow&&decide (r.keyMin<=v.key)&&decide (1<=v.life)&&decide (v.life<=r.lifeMax)
 |none=>false
def CV(l:List b7)(v:yZ)(d:ByteArray->Int)(st:aj8)(s:ByteArray):aj8:=
 {allow:=st.allow&&Ew l v (d s),at':=if st.allow&& !Ew l v (d s)then(st.by'.length:Int)else st.at',by':=st.by'++[d s]}
def cJ(l:List b7)(v:yZ)(d:ByteArray->Int):aj8:=v.names.foldl (CV l v d) ⟨true,0,[]⟩
def CP:aj8:=⟨false,0,[]⟩
def t7(l:List b7):List b7:=if bL l=0 then l else[]
def lu(l:List b7):List Dv:=if bL l=0 then ef l else[]
def kh(rs:List b7)(ns:List Dv):Int:=if bL rs=0 then(if ef rs=ns then 0 else 1)else bL rs
def fH(rs:List b7)(ns:List Dv)(v:yZ):aj8×Int:=if kh rs ns=0 then(if lU v then(cJ rs v (mg ns),0)else(CP,1))else(CP,kh rs ns)
def td{f:ByteArray->Bool}:∀{l b:List ByteArray},eZ f b l=true->l.Nodup/\∀p∈l,f p=true/\p∉b
 |[],_,_=>Pm
 |p::l,b,h=>by
  rw[eZ,V7,V7,Wh]at h;obtain⟨⟨h1,c⟩,A⟩:=h;obtain⟨g1,g2⟩:=td A;have d:p∉b:=fun K=>TH;refine⟨List.nodup_cons.2 ⟨fun K=>(g2 p K).2 Pm,g1⟩,fun q N=>?_⟩;rcases VN.1 N with rfl|N
  .exact⟨h1,d⟩
  exact⟨(g2 q N).1,fun K=>(g2 q N).2 (Xz _ K)⟩
def sF{v}(h:lU v=true):∀s∈v.names,gX s.data.toList=true:=fun s z=>by
 unfold lU at h;rw[V7]at h;exact((td h.1).2 s z).1
def wC:pD Int:=fun w b o n=>w.cell? ⟨b,o,U8⟩=Ts (Ti Tl n)
instance:mj wC where
 ext:=fun h hE=>ae h hE
abbrev rx(w:UN)(a:Option VW)(l:List Int):Prop:=cr 1 wC w a l
def jz{α β:Type}{l:List α}{x:α}(h:l[k]?=Ts x)(f:β->α->β)(s:β):(l.take (k+1)).foldl f s=f ((l.take k).foldl f s) x:=by
 rw[Xk,h];simp
def agU(v:aj8)(a:Option VW)(c:Nat):UV:=UT #[U1 v.allow,Ti Tl v.at',Tm a v.by'.length c]
def ny{α:Type}(p:α->Bool)(l:List α):Int:=match l.findIdx? p with
 |some i=>(i:Int)
 |none=>-1
def Gs{α:Type}{p:α->Bool}{l:List α}(h:∀s∈l,p s=false):ny p l=-1:=by
 have:l.findIdx? p=U8:=List.findIdx?_eq_none_iff.2 h;unfold ny;rw[this]
def Fk{α:Type}{p:α->Bool}{l:List α}{x:α}(m:l[k]?=Ts x)(b:p x=true)(h:∀s∈l.take k,p s=false):ny p l=k:=by
 have:l.findIdx? p=Ts k:=by
  rw[List.findIdx?_eq_some_iff_getElem];obtain⟨h1,c⟩:=UU.1 m;refine⟨h1,by rw[c];exact b,fun j Q=>?_⟩;have:=h l[j] (Uv (i:=j) (by rw[XM,if_pos Q];exact V8 Ph));rw[this];simp
 unfold ny;rw[this]
def Jd:pD Dv:=fun w b o x=>
 w.cell? ⟨b,o,U8⟩=Ts (UH x.label)/\w.cell? ⟨b,o+1,U8⟩=Ts (Ti Tl x.here')/\w.cell? ⟨b,o+2,U8⟩=Ts (Ti Tl x.below)/\
 (∃a c,w.cell? ⟨b,o+3,U8⟩=Ts (Tm a x.kids.length c)/\x.kids.length<=c/\c<=VL/\rx w a x.kids)/\x.label.size<=VL
instance:mj Jd where
 ext:=fun{w w' b o r}h hE=>by
  obtain⟨h0,h1,h2,⟨a,c,h3,l1,l2,h4⟩,h5⟩:=h
  exact⟨ae h0 hE,ae h1 hE,ae h2 hE,⟨a,c,ae h3 hE,l1,l2,h4.ext hE⟩,h5⟩
abbrev ut(w:UN)(a:Option VW)(l:List Dv):Prop:=cr 4 Jd w a l
def Ho:pD (Nat×Nat):=fun w b o q=>w.cell? ⟨b,o,U8⟩=Ts (Ti Tl (q.1:Int))/\w.cell? ⟨b,o+1,U8⟩=Ts (Ti Tl (q.2:Int))
instance:mj Ho where
 ext:=fun h hE=>⟨ae h.1 hE,ae h.2 hE⟩
def j9(q:Nat×Nat):List UV:=[Ti Tl (q.1:Int),Ti Tl (q.2:Int)]
def infoPair:(UB.info? 289).map (fun i=>(i.zero,i.size,i.bytes))=Ts (Ts (UT #[Ti Tl 0,Ti Tl 0]),2,16):=Pg
def infoInt:(UB.info? 3).map (fun i=>(i.zero,i.size,i.bytes))=Ts (Ts (Ti Tl 0),1,8):=Pg
def ajB{α:Type}(m:Nat)(R:pD α)(l:List α)(w:UN)(e:Xo)(b:UN):Prop:=∃v,e=UO v/\Ke m R b v l/\aq w b
section
def Df(x y:Int):Int:=if x<y then-1 else if y<x then 1 else 0
def ib(x y:Nat×Nat):Int:=if Df x.1 y.1=0 then Df x.2 y.2 else Df x.1 y.1
def nk(x y):ltOf ib x y=true↔jB x y:=by
 unfold ltOf ib Df jB;rw[decide_eq_true_eq];repeat' split
 all_goals omega
def Eb:Sort.SWO (ltOf ib) where
 irrefl:=fun x=>by rw[Xm,ne_eq,nk];unfold jB;omega
 trans:=fun x y z h1 c=>by rw[nk]at*;unfold jB at*;omega
 ntrans:=fun x y z h1 c=>by
  rw[Xm,ne_eq,nk]at*;unfold jB at*;omega
def sB(x:Int)(w:UN):VB UB 276 #[Ti Tl x] w fun e b=>e=UO (U1 false)/\w=b:=by
 go_enter func276,ntmps276;exact U7
def oR(x y)(w:UN):VB UB 237 #[Ti Tl x,Ti Tl y] w fun e b=>e=UO (Ti Tl (Df x y))/\w=b:=by
 have d:=Tn (show Df x y=if x<y then-1 else if y<x then 1 else 0 from rfl);by_cases h1:x<y
 .have g:decide (x<y)=true:=by simpa using h1
  go_enter func237,ntmps237;go_wp2_with (go_at_call 276;refine(sB _ _).mono ?_;rintro e b⟨rfl,rfl⟩)
  go_ret;exact⟨eu (by rw[d.out,if_pos h1]),rfl⟩
 have g:decide (x<y)=false:=by simpa using h1
 by_cases c:y<x
 .have f:decide (y<x)=true:=by simpa using c
  go_enter func237,ntmps237;go_wp2_with (go_at_call 276;refine(sB _ _).mono ?_;rintro e b⟨rfl,rfl⟩)
  go_ret;exact⟨eu (by rw[d.out,if_neg Ph,if_pos c]),rfl⟩
 have f:decide (y<x)=false:=by simpa using c
 go_enter func237,ntmps237;go_wp2_with (go_at_call 276;refine(sB _ _).mono ?_;rintro e b⟨rfl,rfl⟩)
 go_ret;exact⟨eu (by rw[d.out,if_neg Ph,if_neg Ph]),rfl⟩
def Bm(x y)(b1 b2:Nat)(w:UN)(c0:w.cell? ⟨b1,0,U8⟩=Ts (Ti Tl (x.1:Int)))(c1:w.cell? ⟨b1,1,U8⟩=Ts (Ti Tl (x.2:Int)))(q:w.cell? ⟨b2,0,U8⟩=Ts (Ti Tl (y.1:Int)))(s:w.cell? ⟨b2,1,U8⟩=Ts (Ti Tl (y.2:Int))):
  VB UB 195 #[Tm (Ts ⟨b1,0,U8⟩) 2 2,Tm (Ts ⟨b2,0,U8⟩) 2 2] w fun e b=>e=UO (Ti Tl (ib x y))/\w=b:=by
 refine P1 (Df x.1 y.1) fun d h1=>P1 (Df x.2 y.2) fun f c=>P3 (show ib x y=if d=0 then f else d by unfold ib;rw[h1,c]) h1 c fun l j m=>?_;by_cases am:d=0
 .have p:(d !=0)=false:=by simpa using am
  by_cases g:f=0
  .have o:(f !=0)=false:=by simpa using g
   have Z:=Tn (show ib x y=0 by rw[l.out,if_pos am,g]);go_enter func195,ntmps195;go_wp2
   refine wp_loop_rounds 3 ?_;rw[rounds_succ];go_wp2_with (go_at_call 237;refine(oR _ _ _).mono ?_;rintro e b⟨rfl,rfl⟩;rw[j.out])
   rw[rounds_succ];go_wp2_with (go_at_call 237;refine(oR _ _ _).mono ?_;rintro e b⟨rfl,rfl⟩;rw[m.out])
   rw[rounds_succ];go_wp2
   exact Zcq
  have o:(f !=0)=true:=by simpa using g
  have Z:=Tn (show ib x y=f by rw[l.out,if_pos am]);go_enter func195,ntmps195;go_wp2
  refine wp_loop_rounds 3 ?_;rw[rounds_succ];go_wp2_with (go_at_call 237;refine(oR _ _ _).mono ?_;rintro e b⟨rfl,rfl⟩;rw[j.out])
  rw[rounds_succ];go_wp2_with (go_at_call 237;refine(oR _ _ _).mono ?_;rintro e b⟨rfl,rfl⟩;rw[m.out])
  exact Zcq
 have p:(d !=0)=true:=by simpa using am
 have Z:=Tn (show ib x y=d by rw[l.out,if_neg am]);go_enter func195,ntmps195;go_wp2
 refine wp_loop_rounds 3 ?_;rw[rounds_succ];go_wp2_with (go_at_call 237;refine(oR _ _ _).mono ?_;rintro e b⟨rfl,rfl⟩;rw[j.out])
 exact Zcq
open Go.Sort (grow)
def agJ(f b:UN):Prop:=∃q,b=f.drewN q
def Ex(x y)(w:UN):
  VB UB 194 #[UT #[Ti Tl (x.1:Int),Ti Tl (x.2:Int)],UT #[Ti Tl (y.1:Int),Ti Tl (y.2:Int)]] w fun e b=>e=UO (Ti Tl (ib x y))/\∃q c,b=grow (w.drewN q) c:=by
 go_enter func194,ntmps194;go_wp2_with fail;refine P1 ((w.alloc (Tq #[Ti Tl (x.1:Int),Ti Tl (x.2:Int)] 289)).alloc (Tq #[Ti Tl (y.1:Int),Ti Tl (y.2:Int)] 289)) fun f d=>have c0:f.cell? ⟨w.heap.size,0,U8⟩=Ts (Ti Tl (x.1:Int)):=Pw;have c1:f.cell? ⟨w.heap.size,1,U8⟩=Ts (Ti Tl (x.2:Int)):=Pw;have m:f.cell? ⟨w.heap.size+1,0,U8⟩=Ts (Ti Tl (y.1:Int)):=Pw;have s:f.cell? ⟨w.heap.size+1,1,U8⟩=Ts (Ti Tl (y.2:Int)):=Pw;have p:=Tn d;?_;rw[d];refine aZ Pg Pg (fun b=>agJ f b) ⟨1,rfl⟩ ?_;repeat
  (first|refine az rfl rfl rfl rfl ?_|refine aF rfl rfl rfl rfl ?_|refine aw rfl ?_|refine aj rfl rfl rfl rfl rfl ?_|((first|refine av (v:=?_) rfl rfl (fun hb b l=>?_) ?_|refine ar (v:=?_) rfl rfl rfl (fun r hb b l=>?_) ?_|refine ax (v:=?_) rfl (fun b l=>?_) ?_);rotate_left;(focus(have k0:b.cell? ⟨w.heap.size,0,U8⟩=Ts (Ti Tl (x.1:Int)):=(by obtain⟨q,rfl⟩:=l;exact c0);have o:b.cell? ⟨w.heap.size,1,U8⟩=Ts (Ti Tl (x.2:Int)):=(by obtain⟨q,rfl⟩:=l;exact c1);have t:b.cell? ⟨w.heap.size+1,0,U8⟩=Ts (Ti Tl (y.1:Int)):=(by obtain⟨q,rfl⟩:=l;exact m);have m1:b.cell? ⟨w.heap.size+1,1,U8⟩=Ts (Ti Tl (y.2:Int)):=(by obtain⟨q,rfl⟩:=l;exact s);unfold ak;go_simp;first|exact aD l|(refine(Bm x y _ _ _ k0 o t m1).mono ?_;rintro e j⟨rfl,rfl⟩;exact aH l)))))
  simp only[Ua,P7]
 refine aA fun b g=>?_;obtain⟨q,rfl⟩:=g;go_wp2;go_ret;exact⟨rfl,q,#[_,_],by rw[<-p.out,Sort.alloc_eq_grow,Sort.alloc_eq_grow,Sort.grow_grow];rfl⟩
def Jv{base}{o:List (Nat×Nat)}(hn:o.length=n)(h:w.ownsRow base e 2 (Tm (Ts ⟨g,0,U8⟩) n cap) n (o.flatMap j9)):Sort.HoldsK j9 2 w g 0 o.toArray:=by
 intro j Q;rw[Sort.size_flatK]at Q;have b:j<n*2:=by rw[<-hn];simpa using Q
 rw[Sort.get_flatK _ _ _ _ Q,VY];refine⟨?_,h.frozenAt j⟩;have R:j/2<o.length:=by rw[hn];omega
 have K:j%2<2:=Nat.mod_lt _ Pi;have c:=V8 R;have cf:=fC (f:=j9) (m:=2) (fun _=>rfl) (j%2) c K;rw[show j/2*2+j%2=j from Ph]at cf;rw[h.cellAt j b,cf];have am:o.toArray[j/2]! =o[j/2]:=by simp[R]
 rw[am];generalize o[j/2]=q;unfold j9;rcases(show j%2=0\/j%2=1 from Ph)with L|L<;>rw[L]<;>rfl
def xM(w:UN)(c m:Nat)(d)(os:Array Obj):Fr (fun b=>b=c) w (sortWorldK j9 2 w c 0 m d os):=by
 refine⟨rfl,rfl,rfl,?_,fun k o z=>?_⟩
 .show w.heap.size<=((w.heap.modify c _)++os).size
  simp
 show((w.heap.modify c _)++os)[k]?=_
 rw[Array.getElem?_append_left Za3,Array.getElem?_modify,if_neg (fun e=>z e.symm)]
def xF(c:UV)(w:UN):VB UB 267 #[zz,Ti Tl 0,Ti Tl 0,c] w fun e b=>e=UO (UW #[])/\w=b:=by
 go_enter func267,ntmps267;go_wp2
 refine wp_loop_rounds 1 ?_;rw[rounds_succ];go_wp2
 go_end0
 exact⟨rfl,rfl⟩
def abW(d:Int)(c:UV)(w:UN):VB UB 235 #[zz,Ti Tl 0,Ti Tl 0,Ti Tl d,c] w fun e b=>e=UO (UW #[])/\w=b:=by
 go_enter func235,ntmps235;go_wp2
 refine wp_loop_rounds 1 ?_;rw[rounds_succ];go_wp2_with (go_at_call 267;refine(xF _ _).mono ?_;rintro e b⟨rfl,rfl⟩)
 refine VC (results_none rfl _ _ _) rfl ?_;exact⟨rfl,rfl⟩
def AH(c:UV)(w:UN):VB UB 193 #[zz,c] w fun e b=>e=UO (UW #[])/\w=b:=by
 have p:∀w,VB UB 236 #[Ti Tt 0] w fun e b=>e=UO (Ti Tl (Lib.bitLen 0:Nat))/\b=w:=fun w=>by
  have h:=bits_Len 0 w Ph Ph;exact h
 have d:=Tn p;go_enter func193,ntmps193;go_wp2_with (first|(go_at_call 236;refine(d _).mono ?_;rintro e b⟨rfl,rfl⟩)|(go_at_call 235;refine(abW _ _ _).mono ?_;rintro e b⟨rfl,rfl⟩))
 go_end0
 exact⟨rfl,rfl⟩
def xO(o:List (Nat×Nat))(s base n)(w:UN)(hn:o.length=n)(hb:n<=4000000)(r:w.ownsRow base 289 2 s n (o.flatMap j9)):
  VB UB 193 #[s,.func (.func 194) #[] #[]] w fun e t=>
   e=UO (UW #[])/\∃o',o'.Perm o/\o'.Pairwise (fun a b=>¬jB b a)/\Ke 2 Ho t s o'/\Fr (fun b=>s.ownBlock=Ts b) w t:=by
 rcases dD r with⟨rfl,rfl,_⟩|⟨g,cap,rfl,S,_,R,J,u⟩
 .have:o=[]:=VA hn;subst this;refine(AH _ w).mono ?_;rintro e t⟨rfl,rfl⟩;exact⟨rfl,[],List.Perm.refl _,Yk,⟨U8,0,rfl,UY _,VF _,ZO _ _ _ _⟩,Z5 _ _⟩
 have f:o.toArray.size=n:=by simpa using hn
 have G:=Jv hn r
 have key:=slices_SortFunc (α:=Nat×Nat) 2 (fun w=>Pg) (fun w=>Pg) j9 (fun _=>rfl) (fun x v B=>by
  unfold j9 at B;simp only[PD]at B
  rcases B with rfl|rfl<;>rfl) ib Eb 194 #[] g 0 cap o.toArray w (Vv func194 Pg rfl)
  (fun m os I _ x y=>(Ex x y _).mono fun _ _ h=>h) G R (by rw[f];omega)
 rw[f]at key;refine key.mono ?_;rintro e t⟨rfl,d,m,os,⟨c,_,q⟩,z,rfl⟩;rw[f]at c;refine⟨rfl,d.toList,?_,?_,?_,(xM w g m d os).mono fun b _ hb=>by rw[hb];exact S⟩
 .have am:d.extract 0 n=d:=by rw[<-c];simp
  have H:o.toArray.extract 0 n=o.toArray:=by rw[<-f];simp
  rw[am,H]at q;exact q
 .rw[List.pairwise_iff_getElem];intro i j hi Q D;have A:i<d.size:=RM;have l:j<d.size:=by simpa using Q
  have:=z i j (VF _) D (by rw[<-c];exact l);rw[getElem!_pos d j l,getElem!_pos d i A]at this;rw[<-nk,Array.getElem_toList,Array.getElem_toList,this];simp
 have p:=holdsK_sortWorldK_c j9 2 w g 0 o.toArray d m os G R (by rw[c,f]);refine⟨Ts ⟨g,0,U8⟩,cap,Zbx,by simp[c,J],u,fun i x E=>⟨g,0,rfl,?_⟩⟩;have hi:i<d.size:=by have:=(UU.1 E).1;simpa using this
 have C:d[i]! =x:=by
  rw[getElem!_pos d i hi];rw[Array.getElem?_toList,Vy hi]at E;simpa using E
 have k0:=(p.cell hi (show 0<2 from Pi)).1;have F:=(p.cell hi (show 1<2 from Pi)).1;rw[C]at k0 F;exact⟨by simpa [j9]using k0,by simpa [j9]using F⟩
end
def wk(l:List Int)(p:Int->Bool)(g)(cb:Array UV)(a cap n w)(hn:l.length=n)(G:n<=cap)(r:cap<=VL)(E:rx w a l)(L:∀args w,(callFunc g args).run UB w= .ok (.enter g args) w)(x:∀s∈l,∀t,aq w t->VB UB g (#[Ti Tl s]++cb) t (bM (U1 (p s)) t)):
  VB UB 134 #[Tm a n cap,.func (.func g) #[] cb] w (bM (Ti Tl (ny p l)) w):=by
 unfold VL at r;refine P3 hn E x fun B J H=>?_;go_enter func134,ntmps134;go_wp2;go_loopw [8] (fun i wr=>∃k:Nat,k<=n/\i=Ti Tl k/\(∀s∈l.take k,p s=false)/\aq w wr) (fun i _=>n-(VS i).toNat)
 case atStart=>exact⟨0,VF _,rfl,fun s h=>QX,P0⟩
 obtain⟨k,o,rfl,f,A⟩:=hrel;refine P4 f A fun c ys=>?_;by_cases R:k<n
 .obtain⟨s,z⟩:=ay B R;obtain⟨b,off,rfl,y⟩:=(J.ext ys) k s z;unfold wC at y;rw[XT]at y;refine P4 z (H s (Uv z)) fun C D=>have I:k<=cap:=Ph;?_;cases N:p s
  .have m:=Tn N;go_wp2_with (go_at_fn g;refine P2 (D _ ys) fun F q=>?_;rw[m.out];have d:=Tn q)
   go_roundw
   case rel=>exact⟨k+1,Ph,Pt,fun K j=>by
    rw[aW C.out,WD,VP]at j
    rcases j with h|rfl
    .exact c.out K h
    exact m.out,aa ys d⟩
   case measure=>simp[VS];omega
  have m:=Tn N;have u:=Tn (Fk C N c);go_wp2_with (go_at_fn g;refine P2 (D _ ys) fun F q=>?_;rw[m.out];have d:=Tn q)
  go_ret;exact⟨eu u.symm,aa ys d⟩
 obtain rfl:k=n:=by omega
 have u:=Tn (Gs (p:=p) (l:=l) (by have:=c.out;rwa[VD Zak]at this));go_wp2;go_ret;exact⟨eu u.symm,ys⟩
def aj1(ns:List Dv)(lab:ByteArray)(k:Int):Bool:=((ns[k.toNat]?).map fun x=>x.label.toList==lab.toList)==Ts true
def xd(ns lab):∀(b:List Int),(eT ns lab b=U8/\ny (aj1 ns lab) b=-1)\/∃(j:Nat)(q:Int),eT ns lab b=Ts q/\ny (aj1 ns lab) b=j/\b[j]?=Ts q
 |[]=> .inl ⟨rfl,rfl⟩
 |k::b=>by
  cases o:aj1 ns lab k
  .have f:eT ns lab (k::b)=eT ns lab b:=by
    unfold aj1 at o;conv=>lhs;unfold eT
    rw[o];rfl
   have d:ny (aj1 ns lab) (k::b)=if ny (aj1 ns lab) b=-1 then-1 else ny (aj1 ns lab) b+1:=by
    unfold ny;rw[List.findIdx?_cons,o];cases List.findIdx? (aj1 ns lab) b with
    |none=>rfl
    |some i=>
     simp only[Bool.false_eq_true,if_false,Wm];rw[if_neg Ph];omega
   rcases xd ns lab b with⟨h1,c⟩|⟨j,q,h1,c,A⟩
   .exact .inl ⟨by rw[f,h1],by rw[d,c];rfl⟩
   refine .inr ⟨j+1,q,by rw[f,h1],?_,by simpa using A⟩;rw[d,c,if_neg Ph];omega
  refine .inr ⟨0,k,?_,?_,rfl⟩
  .unfold aj1 at o;conv=>lhs;unfold eT
   rw[o];rfl
  unfold ny;rw[List.findIdx?_cons,o];rfl
def L3(ns:List Dv)(lab a)(cap n j bl k:Nat)(y:Dv)(w)(hn:ns.length=n)(q:n<=cap)(g:cap<=VL)(p:ut w a ns)(U:ns[k]?=Ts y)(h1:VX w j 25 (Tm a n cap))(c:VX w bl 9 (UH lab)):
  VB UB 135 #[Ti Tl (k:Int),UK (Ts ⟨j,0,U8⟩),UK (Ts ⟨bl,0,U8⟩)] w (bM (U1 (y.label.toList==lab.toList)) w):=by
 have R:k<n:=by rw[<-hn];exact(UU.1 U).1
 obtain⟨b,off,rfl,m,_⟩:=p k y U;have c1:=h1.cell;have c2:=c.cell;have o:k<=cap:=Ph;go_enter func135,ntmps135;go_wp2_with fail;refine aZ Pg Pg (fun d=>aq w d) ((Xg (fun _=>False) _).ext (fun _ _ h=>h)) ?_;repeat
  (first|refine az rfl rfl rfl rfl ?_|refine aF rfl rfl rfl rfl ?_|refine aw rfl ?_|refine aj rfl rfl rfl rfl rfl ?_|((first|refine av (v:=?_) rfl rfl (fun hb d l=>?_) ?_|refine ar (v:=?_) rfl rfl rfl (fun r hb d l=>?_) ?_|refine ax (v:=?_) rfl (fun d l=>?_) ?_);rotate_left;(focus(have s:=ae m l;have am:=ae c1 l;have t:=ae c2 l;unfold ak;go_simp;first|exact aD l))))
  simp only[Ua,P7]
 refine aA fun d f=>?_;go_wp2;go_ret;exact⟨rfl,f⟩
def uD(ns:List Dv)(lab a)(cap n i:Nat)(x:Dv)(w)(hn:ns.length=n)(C:n<=cap)(z:cap<=VL)(p:ut w a ns)(O:ns[i]?=Ts x)(o:Aw ns x.kids):
  VB UB 68 #[Tm a n cap,Ti Tl (i:Int),UH lab] w (bM (UW #[Ti Tl ((eT ns lab x.kids).getD 0),U1 (eT ns lab x.kids).isSome]) w):=by
 have R:i<n:=by rw[<-hn];exact(UU.1 O).1
 refine PC hn C z p o fun Y J I HL HK=>?_;obtain⟨b,off,rfl,_,_,_,⟨pa,pc,G,l1,l2,F⟩,_⟩:=p i x O;refine P3 F l1 l2 fun E V L2=>P1 x.kids.length fun m K=>have H:=Tn K;?_;rw[K]at G;have hic:i<=cap:=Ph;unfold VL at z;clear K;have HF:=Tn (xd ns lab x.kids);refine P1 ((w.alloc (Tq #[Tm (Ts ⟨b,off,U8⟩) n cap] 25)).alloc (Tq #[UH lab] 9)) fun f d=>have u:aq w f:=Pz;?_;have b1:VX f w.heap.size 25 (Tm (Ts ⟨b,off,U8⟩) n cap):=by rw[<-d];exact(Wt _ _ _).alloc _
 have b2:VX f (w.heap.size+1) 9 (UH lab):=by rw[<-d];have:=Wt (w.alloc (Tq #[Tm (Ts ⟨b,off,U8⟩) n cap] 25)) 9 (UH lab);rwa[Ud]at this
 have D:=Tn (wk x.kids (aj1 ns lab) 135 #[UK (Ts ⟨w.heap.size,0,U8⟩),UK (Ts ⟨w.heap.size+1,0,U8⟩)] pa pc m f H (by rw[<-H.out];exact V.out) L2 (E.ext u)
  (Vv func135 Pg rfl) (fun q N w' g=>by
   obtain⟨L,h1⟩:=HK.out q N;obtain⟨y,U⟩:=ay (l:=ns) rfl h1;have e:aj1 ns lab q=(y.label.toList==lab.toList):=by
    unfold aj1;rw[U,Wm];generalize(y.label.toList==lab.toList)=t;cases t<;>rfl
   rw[e,show q=((q.toNat:Nat):Int)from Ph]
   exact L3 ns lab _ cap n _ _ q.toNat y w' Y J I (HL.ext (aa u g)) U (aC g b1) (aC g b2)))
 refine P4 u d fun B T=>?_;replace G:=ae G u
 have Z:=b1.cell;clear d;rcases HF.out with⟨h1,c⟩|⟨j,q,h1,c,A⟩
 .refine P4 h1 c fun P M=>?_;go_enter func68,ntmps68;go_upto_region 1 with fail;rw[T.out];go_wp2_with (go_at_call 134;refine P2 D fun X r=>?_;rw[M.out];have s:=Tn r)
  go_ret2
  exact⟨by rw[P.out];rfl,aa B s⟩
 have Q:j<m:=by rw[<-H.out];exact(UU.1 A).1
 have hjc:j<=pc:=by have:=V.out;rw[H.out]at this;omega
 obtain⟨b3,W,rfl,S⟩:=(E.ext B) j q A;unfold wC at S;rw[XT]at S;refine P4 h1 c fun P M=>?_;go_enter func68,ntmps68;go_upto_region 1 with fail;rw[T.out];go_wp2_with (go_at_call 134;refine P2 D fun X r=>?_;rw[M.out];have k2:=ae Z r;have d4:=ae G r;have e4:=ae S r;have s:=Tn r)
 go_ret2
 exact⟨by rw[P.out];rfl,aa B s⟩
def Fm(s):Lib.indexB s ⟨#[46]⟩=XS s.data.toList 46:=Lib.index_one s.data.toList 46
def wN:∀(n:Nat)(s:ByteArray),YY s.data.toList 46=n->Lib.splitB ⟨#[46]⟩ 0 n s=(cut s.data.toList).map fun x=>⟨x.toArray⟩
 |0,s,h=>by
  have J:=gK s.data.toList;rw[h]at J;have hi:XS s.data.toList 46=-1:=by
   by_cases c:0<=XS s.data.toList 46
   .obtain⟨i,hi⟩:=WL c;rw[rM _ i hi]at J;have:=wg (s.data.toList.drop (i+1));simp at J;exact absurd J this
   have:=Lib.indexByte_ge s.data.toList 46;omega
  rw[Lib.splitB_zero,rU _ hi];simp
 |n+1,s,h=>by
  have J:=gK s.data.toList;rw[h]at J;by_cases c:0<=XS s.data.toList 46
  .obtain⟨i,hi⟩:=WL c;have hcut:=rM _ i hi;rw[hcut]at J;have y:(s.extract (i+1) s.size).data.toList=s.data.toList.drop (i+1):=by rw[IZ]
   have b:YY (s.extract (i+1) s.size).data.toList 46=n:=by
    have:=gK (s.data.toList.drop (i+1));rw[y];simp at J;omega
   unfold Lib.splitB;rw[Fm,hi,if_neg Pm,hcut,WI];have d:=wN n _ b;rw[y]at d;rw[<-d,<-Ic];rfl
  have hi:XS s.data.toList 46=-1:=by have:=Lib.indexByte_ge s.data.toList 46;omega
  rw[rU _ hi]at J;simp at J
def xg(s):Lib.countB s ⟨#[46]⟩=YY s.data.toList 46:=Lib.count_one 46 s.data.toList
def Im(l:List UV)(w:UN)(e:Xo)(b:UN):Prop:=∃v,e=UO v/\b.ownsRow w.heap.size 9 1 v l.length l/\aq w b
def O8{base base' d}(h:w.ownsRow base e m v n d)(hb:base'<=base):w.ownsRow base' e m v n d:=by
 exact UL
def KA(s:ByteArray)(w)(f:xB w)(z:s.size<=1000):
  VB UB 199 #[UH s,UH ⟨#[46]⟩] w (Im ((cut s.data.toList).map rz) w):=by
 obtain⟨m,K⟩:=f;refine(strings_Split s ⟨#[46]⟩ m w Ph K Pi).mono fun e b⟨h1,c⟩=>?_;have d:(Lib.splitB ⟨#[46]⟩ 0 (Lib.countB s ⟨#[46]⟩) s).map UH=(cut s.data.toList).map rz:=by
  rw[xg,wN _ s rfl,List.map_map];rfl
 rw[d]at c;have p:((cut s.data.toList).map rz).length=Lib.countB s ⟨#[46]⟩+1:=by rw[VR,gK,xg]
 refine⟨_,h1,?_,by rw[c];exact P0.alloc (UY _) _⟩;have K:Lib.countB s ⟨#[46]⟩+1<=VL:=by
  have:=Lib.countB_le ⟨#[46]⟩ Pi _ s (UY _);unfold VL;omega
 rw[c,p];have:=World.ownsRow_lit (base:=w.heap.size) (e:=9) (size:=1) w ((cut s.data.toList).map rz).toArray (Lib.countB s ⟨#[46]⟩+1) (UY _) K (by rw[WG,p,XT]);simpa using this
def Hl(s:ByteArray)(w)(z:s.size<=9223372036854775807)(j:xB w):
  VB UB 133 #[UH s] w (Im ((if gX s.data.toList then cut s.data.toList else[]).map rz) w):=by
 have m:=Tn j;cases hb:gX s.data.toList
 .have d:=Tn hb;go_enter func133,ntmps133;go_wp2_with (go_at_call 198;refine P2 (AR s _ z) fun b g=>?_;rw[d.out])
  go_ret;exact⟨_,rfl,WO _ _ _ _,g⟩
 have c:s.size<=1000:=by have:=(gC.1 hb).1;rw[YW];omega
 have d:=Tn hb;go_enter func133,ntmps133;go_wp2_with (first|(go_at_call 198;refine P2 (AR s _ z) fun b g=>?_;rw[d.out])|(go_at_call 199;refine(KA s _ (m.ext g) c).mono ?_;rintro e o⟨v,rfl,f,D⟩;have l:=Tn f))
 go_ret;exact⟨v,rfl,O8 l g.size,aa g D⟩
def cnt(b:List Int)(j:Nat):Int:=((b.count (j:Int):Nat):Int)
section
section
variable {P:Wn} {ops:Array Xd} {Q:Exit->Act->UN->Prop} {r:Option Nat}
def gx(X:Nat->Option UV)(vs:List UV)(j:Nat):UV:=match X j with
 |some x=>x
 |none=>vs.getD j VM
def dE(X:Nat->Option UV)(R:Nat->UV->UN->Prop)(j:Nat)(v:UV)(w:UN):Prop:=match X j with
 |some x=>v=x
 |none=>R j v w
def Ce(P:Wn)(ops:Array Xd)(ds:List (Option Tmp))(a0:Act)(V:UN)(X:Nat->Option UV)(R:Nat->UV->UN->Prop)(i:Nat)(o:Xd):Prop:=
 ∀(vs:List UV)(w:UN),aq V w->(∀j,X j=U8->bf ops i j=true->R j (vs.getD j VM) w)->
  if Vr o (Xs ops (eA ds a0 (gx X vs) i).tmps)=true then ak P o (eA ds a0 (gx X vs) i) w (fun v b=>dE X R i v b/\aq w b)else X i=Ts VM
def aeQ(P:Wn)(ops:Array Xd)(ds:List (Option Tmp))(a0:Act)(V:UN)(B:List XR->UN->Prop)(Q:Exit->Act->UN->Prop)(X:Nat->Option UV)(R:Nat->UV->UN->Prop)(i:Nat)(o:Xd):Prop:=
 (∀j,j<i->dL ops ops.size i j=true)/\o.guard=U8/\∀(vs:List UV)(w:UN),aq V w->(∀j,X j=U8->j<i->R j (vs.getD j VM) w)->aN P o (eA ds a0 (gx X vs) i) w B (fun v b=>Q .normal ((eA ds a0 (gx X vs) i).put (ds.getD i U8) v) b)
def ai1(n:Nat)(b:Bool)(V:UN)(X:Nat->Option UV)(R:Nat->UV->UN->Prop)(Fin:List UV->UN->Prop)(L:Nat->Prop)(vs:List UV)(w:UN):Prop:=
 (b=true->L (n-1)->Fin vs w)/\((b=true->¬L (n-1))->aq V w/\∀j,j<n->L j->dE X R j (vs.getD j VM) w)
def uu{ds:List (Option Tmp)}{a0}{X:Nat->Option UV}{R:Nat->UV->UN->Prop}{vs:List UV}{i}{o:Xd}(c:ops.toList.map (·.dst)=ds)(b:lm ops=true)(p:vs.length=ops.size)(d:ops[i]?=Ts o){w:UN}(y:∀j,bf ops i j=true->dE X R j (vs.getD j VM) w):
  ∀t∈o.looksAt ops,(aK ds a0 vs i).tmps[t]?=(eA ds a0 (gx X vs) i).tmps[t]?:=
 Jf c b p d fun j Q=>by
  have cf:=y j Q;unfold gx;unfold dE at cf;split
  .next x m=>rw[m]at cf;exact cf.symm
  rfl
def xC{id}{a:Act}{w}(ds:List (Option Tmp))(ad:ops.toList.map (·.dst)=ds)(K:P.follows .mixedOrders=true)(am:DR ops=true){B:List XR->UN->Prop}(hB:∀c a' w,a'.defers=a.defers->B c w->Q (.panic c) a' w)(z:Bool)(V)(h0:aq V w)(X:Nat->Option UV)(R:Nat->UV->UN->Prop)(hR:∀k v w f,R k v w->aq w f->R k v f)(C:∀i o,ops[i]?=Ts o->if z=true/\i+1=ops.size then aeQ P ops ds a V B Q X R i o else Ce P ops ds a V X R i o)(Z:z=false->∀vs f,aq V f->(∀j,X j=U8->j<ops.size->R j (vs.getD j VM) f)->Q .normal (eA ds a (gx X vs) ops.size) f):(YK id ops true).wpIn (Wd r) 0 P Q a w:=by
 obtain⟨al,cf,G,I,-,zs⟩:=lV am;have E:∀(vs:List UV)(f:UN)(i:Nat),i<=ops.size->(∀j,j<i->dE X R j (vs.getD j VM) f)->eA ds a (gx X vs) i=aK ds a vs i:=fun vs f i _ h=>by
  rw[mN];refine fj fun j d=>have:=h j d;?_;unfold dE at this;unfold gx;split
  .next x m=>rw[m]at this;exact this.symm
  rfl
 refine rT (T:=ai1 ops.size z V X R fun vs f=>Q .normal (aK ds a vs ops.size) f) ad K am hB (fun _=>⟨fun _ h=>h.elim,fun _=>⟨aa h0 ((Xg (fun _=>False) _).ext (fun _ _ h=>h)),fun j _ h=>h.elim⟩⟩) (fun i o ho L vs f p hT ab M J=>?_) (fun L vs f p q hT=>?_)
 .have hi:=(UE.1 ho).1;have l:=C i o ho;have Y:z=true->¬L (ops.size-1):=fun u hL=>by
   by_cases hie:i+1=ops.size
   .exact ab (by rw[show i=ops.size-1 from Ph];exact hL)
   have ho':ops[ops.size-1]?=Ts (ops[ops.size-1]'Ph):=Vy Ph;have h:=C _ _ ho';rw[if_pos ⟨u,Ph⟩]at h;exact ab (kL J _ _ (h.1 i Ph) hL)
  obtain⟨g,W⟩:=hT.2 Y;have ah:∀j,bf ops i j=true->dE X R j (vs.getD j VM) f:=fun j d=>W j (G i j d) (M j d);have s:=uu ad al p ho (a0:=a) ah;have hRd:∀j,X j=U8->bf ops i j=true->R j (vs.getD j VM) f:=fun j m d=>by
   have:=ah j d;unfold dE at this;rw[m]at this;exact this
  have O:∀v y j,j<ops.size->j≠i->L j->aq f y->dE X R j ((vs.set i v).getD j VM) y:=fun v y j d zs D hE'=>by
   rw[Uj,Vl (fun e=>zs e.symm),<-Uj];have:=W j d D;unfold dE at this⊢;split
   .next x m=>rw[m]at this;exact this
   next m=>rw[m]at this;exact hR _ _ _ _ this hE'
  by_cases t:z=true/\i+1=ops.size
  .rw[if_pos t]at l;obtain⟨H,S,U⟩:=l;have q:∀j,j<i->L j:=fun j d=>eD M J _ _ (H j d);have hw1:Vr o (Xs ops (aK ds a vs i).tmps)=true:=by unfold Vr;rw[S]
   rw[if_pos hw1]
   have hgv:=U vs f g (fun j m d=>by
    have:=W j Ph (q j d);unfold dE at this;rw[m]at this
    exact this)
   refine(n9 (iJ (fun cs b=>YQ I i o cs b ho) s) hgv).mono fun v y h=>⟨fun _ _=>?_,fun hn=>absurd (.inr (show ops.size-1=i from Ph)) (hn t.1)⟩;have e:aK ds a (vs.set i v) ops.size=(eA ds a (gx X vs) i).put (ds.getD i U8) v:=by
    rw[show ops.size=i+1 from Ph,mN,eA];congr 1
    .rw[E vs f i Ph (fun j d=>W j Ph (q j d)),mN];exact fj fun j d=>by rw[Uj,Vl Ph,<-Uj]
    exact Zco
   show Q .normal (aK ds a (vs.set i v) ops.size) y
   rw[e];exact h
  rw[if_neg t]at l;have l:=l vs f g hRd;rw[<-jd s]at l;have ac:(z=true->(L (ops.size-1)\/ops.size-1=i)->False):=fun u h=>by
   rcases h with h|h
   .exact Y u h
   exact t ⟨u,Ph⟩
  by_cases N:Vr o (Xs ops (aK ds a vs i).tmps)=true
  .rw[if_pos N]at l⊢;refine(mI (iJ (fun cs b=>YQ I i o cs b ho) s) l).toB.mono fun v y h=>⟨fun u h=>(ac u h).elim,fun _=>⟨aa g h.2,fun j d D=>?_⟩⟩;by_cases A:j=i
   .subst A;rw[Uj,Vq Ph];exact h.1
   exact O v y j d A (D.resolve_right A) h.2
  rw[if_neg N]at l⊢;refine⟨fun u h=>(ac u h).elim,fun _=>⟨g,fun j d D=>?_⟩⟩;by_cases A:j=i
  .subst A;rw[Uj,Vq Ph];unfold dE;rw[l];rfl
  exact O _ f j d A (D.resolve_right A) P0
 cases F:z with
 |true=>
  exact hT.1 F (q _ Ph)
 |false=>
  obtain⟨g,W⟩:=hT.2 (fun h=>by rw[F]at h;cases h);rw[<-E vs f ops.size (UY _) (fun j d=>W j d (q j d))];refine Z F vs f g fun j m d=>have:=W j d (q j d);?_;unfold dE at this;rw[m]at this;exact this
def BV(P:Wn)(ops:Array Xd)(ds:List (Option Tmp))(a0:Act)(X:Nat->Option UV)(R:Nat->UV->UN->Prop)(i:Nat)(o:Xd):Prop:=
 ∀(vs:List UV)(w:UN),(∀j,X j=U8->bf ops i j=true->∃c,R j (vs.getD j VM) c)->
  Vr o (Xs ops (eA ds a0 (gx X vs) i).tmps)=true/\∃x,X i=Ts x/\ak P o (eA ds a0 (gx X vs) i) w (Is x fun b=>b=w)
def yu(ds:List (Option Tmp))(a0:Act)(X:Nat->Option UV)(m:Nat)(vs:List UV):Act:=(eA ds a0 (gx X vs) m).put (ds.getD m U8) (vs.getD m VM)
def Mm{ds:List (Option Tmp)}{a0}{X:Nat->Option UV}{m i}{vs:List UV}{x:UV}(c:X i=Ts x)(hi:i≠m)(v):yu ds a0 X m (vs.set i v)=yu ds a0 X m vs:=by
 unfold yu;rw[show(vs.set i v).getD m VM=vs.getD m VM by rw[Uj,Vl hi,<-Uj]];congr 1;refine fj fun j _=>?_;unfold gx;by_cases b:j=i
 .subst b;rw[c]
 split
 .rfl
 rw[Uj,Vl (fun e=>b e.symm),<-Uj]
def JQ{ds:List (Option Tmp)}{a0}{X:Nat->Option UV}{m}{vs:List UV}(K:m<vs.length)(v):yu ds a0 X m (vs.set m v)=(eA ds a0 (gx X vs) m).put (ds.getD m U8) v:=by
 unfold yu;rw[show(vs.set m v).getD m VM=v by rw[Uj,Vq K];rfl];congr 1;refine fj fun j Q=>?_;unfold gx;split
 .rfl
 rw[Uj,Vl Ph,<-Uj]
def O7(P:Wn)(ops:Array Xd)(ds:List (Option Tmp))(a0:Act)(V:UN)(B:List XR->UN->Prop)(Q:Exit->Act->UN->Prop)(X:Nat->Option UV)(R:Nat->UV->UN->Prop)(m:Nat)(o1 o2:Xd):Prop:=
 ∀(vs:List UV)(w:UN),aq V w->(∀j,X j=U8->j<m->R j (vs.getD j VM) w)->aN P o1 (eA ds a0 (gx X vs) m) w B fun v b=>aN P o2 ((eA ds a0 (gx X vs) m).put (ds.getD m U8) v) b B fun v2 c=>Q .normal (((eA ds a0 (gx X vs) m).put (ds.getD m U8) v).put (ds.getD (m+1) U8) v2) c
def ah0(P:Wn)(ds:List (Option Tmp))(a0:Act)(m n:Nat)(V:UN)(B:List XR->UN->Prop)(Q:Exit->Act->UN->Prop)(X:Nat->Option UV)(R:Nat->UV->UN->Prop)(o2:Xd)(L:Nat->Prop)(vs:List UV)(w:UN):Prop:=
 (L (m+1)->Q .normal (aK ds a0 vs n) w)/\
 (¬L (m+1)->L m->(∀j,j<m->L j->∃c,dE X R j (vs.getD j VM) c)/\aN P o2 (yu ds a0 X m vs) w B fun v2 b=>Q .normal ((yu ds a0 X m vs).put (ds.getD (m+1) U8) v2) b)/\
 (¬L (m+1)->¬L m->aq V w/\∀j,j<m->L j->dE X R j (vs.getD j VM) w)
def wB{id}{a:Act}{w}(ds:List (Option Tmp))(W:ops.toList.map (·.dst)=ds)(K:P.follows .mixedOrders=true)(hok:DR ops=true){B:List XR->UN->Prop}(hB:∀c a' w,a'.defers=a.defers->B c w->Q (.panic c) a' w)(V)(h0:aq V w)(X:Nat->Option UV)(R:Nat->UV->UN->Prop)(hR:∀k v w z,R k v w->aq w z->R k v z)(m)(hmn:m+2=ops.size)(o1 o2:Xd)(ho1:ops[m]?=Ts o1)(ho2:ops[m+1]?=Ts o2)(hg1:o1.guard=U8)(hg2:o2.guard=U8)(Φ:List Nat)(M:∀j,j<m->dL ops ops.size m j=true\/j∈Φ)(hr2:∀j,j<m+1->dL ops ops.size (m+1) j=true)(hΦ:∀j,j<m->j∈Φ->X j≠U8)(hpure:∀j o,j<m->j∈Φ->ops[j]?=Ts o->BV P ops ds a X R j o)(Z:∀i o,i<m->ops[i]?=Ts o->Ce P ops ds a V X R i o)(ah:O7 P ops ds a V B Q X R m o1 o2):(YK id ops true).wpIn (Wd r) 0 P Q a w:=by
 obtain⟨J,cf,u,I,-,zs⟩:=lV hok;have hw1:∀(o:Xd)(ts:Array UV),o.guard=U8->Vr o (Xs ops ts)=true:=fun o ts S=>by unfold Vr;rw[S]
 have hgx:∀(vs:List UV)(j:Nat)(z:UN),dE X R j (vs.getD j VM) z->gx X vs j=vs.getD j VM:=fun vs j z h=>by
  unfold dE at h;unfold gx;split
  .next x D=>rw[D]at h;exact h.symm
  rfl
 refine rT (T:=ah0 P ds a m ops.size V B Q X R o2) W K hok hB (fun _=>⟨fun h=>h.elim,fun _ h=>h.elim,fun _ _=>⟨aa h0 ((Xg (fun _=>False) _).ext (fun _ _ h=>h)),fun j _ h=>h.elim⟩⟩) (fun i o O L vs z hl hT U y C=>?_) (fun L vs z hl A hT=>(hT.1 (A _ Ph)));have hi:=(UE.1 O).1;have F:¬L (m+1):=fun hL=>by
  by_cases hie:i=m+1
  .exact U (hie▸hL)
  exact U (kL C _ _ (hr2 i Ph) hL)
 by_cases hi2:i=m+1
 .subst hi2;obtain rfl:o2=o:=Vm (ho2.symm.trans O);have A:∀j,j<m+1->L j:=fun j f=>eD y C _ _ (hr2 j f);obtain⟨Y,G⟩:=hT.2.1 F (A m Ph);rw[if_pos (hw1 _ _ hg2)];have e:aK ds a vs (m+1)=yu ds a X m vs:=by
   rw[mN,eA];unfold yu;congr 1;exact fj fun j f=>by
    obtain⟨w0,h⟩:=Y j f (A j Ph);exact(hgx vs j w0 h).symm
  rw[e];refine G.mono fun v2 s h=>⟨fun _=>?_,fun hn=>absurd (.inr rfl) hn,fun hn=>absurd (.inr rfl) hn⟩;have e2:aK ds a (vs.set (m+1) v2) ops.size=(yu ds a X m vs).put (ds.getD (m+1) U8) v2:=by
   rw[<-hmn,show m+2=(m+1)+1 from rfl,mN,eA,<-e];congr 1
   .rw[mN];exact fj fun j f=>by rw[Uj,Vl Ph,<-Uj]
   exact Zco
  rw[e2];exact h
 have ac:¬(L (m+1)\/m+1=i):=fun h=>h.elim F (fun e=>hi2 e.symm);by_cases hi1:i=m
 .subst hi1;obtain rfl:o1=o:=Vm (ho1.symm.trans O);obtain⟨g,hF⟩:=hT.2.2 F U;rw[if_pos (hw1 _ _ hg1)];have ab:∀j,bf ops i j=true->dE X R j (vs.getD j VM) z:=fun j f=>hF j (ld cf hi (u i j f) f) (y j f);have d:=uu W J hl O (a0:=a) ab
  have G:=ah vs z g (fun j D f=>by
   have l:L j:=by
    rcases M j f with h|h
    .exact eD y C _ _ h
    exact absurd D (hΦ j f h)
   have:=hF j f l;unfold dE at this;rw[D]at this
   exact this)
  refine(n9 (iJ (fun cs b=>YQ I i o1 cs b O) d) G).mono fun v s h=>⟨fun hn=>absurd hn ac,fun _ _=>⟨fun j f l=>⟨z,?_⟩,?_⟩,fun _ hn=>absurd (.inr rfl) hn⟩
  .rw[Uj,Vl Ph,<-Uj];exact hF j f (l.resolve_right Ph)
  rw[JQ Ph];exact h
 have him:i<m:=by omega
 have hnm:∀{p:Prop},(L m\/m=i)->(L m->p)->p:=fun h k=>h.elim k (fun e=>absurd e.symm hi1);by_cases E:L m
 .have hfl:i∈Φ:=by
   rcases M i him with h|h
   .exact absurd (kL C _ _ h E) U
   exact h
  obtain⟨Y,G⟩:=hT.2.1 F E;have hdw:∀j,bf ops i j=true->∃w0,dE X R j (vs.getD j VM) w0:=fun j f=>Y j SH (y j f);have hdX:∀j,bf ops i j=true->gx X vs j=vs.getD j VM:=fun j f=>by
   obtain⟨w0,h⟩:=hdw j f;exact hgx vs j w0 h
  obtain⟨hwt,x,hXi,hgi⟩:=hpure i o him hfl O vs z (fun j D f=>by
   obtain⟨w0,h⟩:=hdw j f;unfold dE at h;rw[D]at h
   exact⟨w0,h⟩)
  have d:∀t∈o.looksAt ops,(aK ds a vs i).tmps[t]?=(eA ds a (gx X vs) i).tmps[t]? :=uu (R:=fun j v _=>gx X vs j=v) (X:=X) W J hl O (a0:=a) (w:=z) (fun j f=>by
   have:=hdX j f;unfold dE;split
   .next x D=>unfold gx at this;rw[D]at this;exact this.symm
   exact this)
  rw[<-jd d]at hwt;rw[if_pos hwt];refine(mI (iJ (fun cs b=>YQ I i o cs b O) d) hgi).toB.mono fun v s h=>?_;obtain⟨rfl,rfl⟩:=h;refine⟨fun hn=>absurd hn ac,fun _ _=>⟨fun j f l=>?_,?_⟩,fun _ hn=>absurd (.inl E) hn⟩
  .by_cases q:j=i
   .subst q;refine⟨s,?_⟩;rw[Uj,Vq Ph];unfold dE;rw[hXi];rfl
   rw[Uj,Vl (fun e=>q e.symm),<-Uj];exact Y j f (l.resolve_right q)
  rw[Mm hXi hi1];exact G
 obtain⟨g,hF⟩:=hT.2.2 F E;have ab:∀j,bf ops i j=true->dE X R j (vs.getD j VM) z:=fun j f=>hF j SH (y j f);have d:=uu W J hl O (a0:=a) ab
 have H:=Z i o him O vs z g (fun j D f=>by
  have:=ab j f;unfold dE at this;rw[D]at this
  exact this)
 rw[<-jd d]at H;have ad:∀v s j,j<m->j≠i->L j->aq z s->dE X R j ((vs.set i v).getD j VM) s:=fun v s j f zs l hE'=>by
  rw[Uj,Vl (fun e=>zs e.symm),<-Uj];have:=hF j f l;unfold dE at this⊢;split
  .next x D=>rw[D]at this;exact this
  next D=>rw[D]at this;exact hR _ _ _ _ this hE'
 by_cases N:Vr o (Xs ops (aK ds a vs i).tmps)=true
 .rw[if_pos N]at H⊢;refine(mI (iJ (fun cs b=>YQ I i o cs b O) d) H).toB.mono fun v s h=>⟨fun hn=>absurd hn ac,fun _ hn=>hnm hn fun h=>absurd h E,fun _ _=>⟨aa g h.2,fun j f l=>?_⟩⟩;by_cases q:j=i
  .exact Zdi
  exact ad v s j f q (l.resolve_right q) h.2
 rw[if_neg N]at H⊢;refine⟨fun hn=>absurd hn ac,fun _ hn=>hnm hn fun h=>absurd h E,fun _ _=>⟨g,fun j f l=>?_⟩⟩;by_cases q:j=i
 .subst q;rw[Uj,Vq Ph];unfold dE;rw[H];rfl
 exact ad _ z j f q (l.resolve_right q) P0
def Fz(vs:List UV)(i:Nat):UV:=vs.getD i VM
def gc(P:Wn)(ops:Array Xd)(V:UN)(B:List XR->UN->Prop)(Q:Exit->Act->UN->Prop):Nat->List Xd->List (Nat×(UV->UN->Prop))->List Nat->(List UV->Act)->Prop
 |_,[],Γ,_,a=>∀(vs:List UV)(w:UN),aq V w->(∀p∈Γ,p.2 (Fz vs p.1) w)->Q .normal (a vs) w
 |i,o::os,Γ,Φ,a=>
  (∃x,(∀(vs:List UV)(w:UN),aq V w->(∀p∈Γ,bf ops i p.1=true->p.2 (Fz vs p.1) w)->if Vr o (Xs ops (a vs).tmps)=true then ak P o (a vs) w (Is x (aq w))else x=VM)/\gc P ops V B Q (i+1) os Γ Φ fun vs=>(a vs).put o.dst x)\/
  (∃R:UV->UN->Prop,(∀v w b,R v w->aq w b->R v b)/\(∀(vs:List UV)(w:UN),aq V w->(∀p∈Γ,bf ops i p.1=true->p.2 (Fz vs p.1) w)->Vr o (Xs ops (a vs).tmps)=true/\ak P o (a vs) w (fun v b=>R v b/\aq w b))/\gc P ops V B Q (i+1) os ((i,R)::Γ) Φ fun vs=>(a vs).put o.dst (Fz vs i))\/
  (os=[]/\(∀j,j<i->dL ops ops.size i j=true)/\o.guard=U8/\∀(vs:List UV)(w:UN),aq V w->(∀p∈Γ,p.2 (Fz vs p.1) w)->aN P o (a vs) w B fun v b=>Q .normal ((a vs).put o.dst v) b)\/
  (∃x,(∀(vs:List UV)(w:UN),(∀p∈Γ,bf ops i p.1=true->∃d,p.2 (Fz vs p.1) d)->Vr o (Xs ops (a vs).tmps)=true/\ak P o (a vs) w (Is x fun b=>b=w))/\gc P ops V B Q (i+1) os Γ (i::Φ) fun vs=>(a vs).put o.dst x)\/
  (∃o2,os=[o2]/\(∀j,j<i->dL ops ops.size i j=true\/j∈Φ)/\(∀j,j<i+1->dL ops ops.size (i+1) j=true)/\o.guard=U8/\o2.guard=U8/\∀(vs:List UV)(w:UN),aq V w->(∀p∈Γ,p.2 (Fz vs p.1) w)->
   aN P o (a vs) w B fun v b=>aN P o2 ((a vs).put o.dst v) b B fun v2 c=>Q .normal (((a vs).put o.dst v).put o2.dst v2) c)
def ac1(P:Wn)(ops:Array Xd)(ds:List (Option Tmp))(a0:Act)(V:UN)(B:List XR->UN->Prop)(Q:Exit->Act->UN->Prop)(X:Nat->Option UV)(R:Nat->UV->UN->Prop)(i:Nat)(Φ:List Nat):Prop:=
 (∃c:Bool,(∀j o,i<=j->ops[j]?=Ts o->if c=true/\j+1=ops.size then aeQ P ops ds a0 V B Q X R j o else Ce P ops ds a0 V X R j o)/\
  (c=false->∀vs b,aq V b->(∀j,X j=U8->j<ops.size->R j (vs.getD j VM) b)->Q .normal (eA ds a0 (gx X vs) ops.size) b)/\(i=ops.size->c=false))\/
 (∃(m:Nat)(o1 o2:Xd)(d:List Nat),i<=m/\m+2=ops.size/\ops[m]?=Ts o1/\ops[m+1]?=Ts o2/\o1.guard=U8/\o2.guard=U8/\(∀j,j<m->dL ops ops.size m j=true\/j∈d)/\(∀j,j<m+1->dL ops ops.size (m+1) j=true)/\
  (∀j,j<m->j∈d->j<i/\j∈Φ\/X j≠U8/\∀o,ops[j]?=Ts o->BV P ops ds a0 X R j o)/\(∀j o,i<=j->j<m->ops[j]?=Ts o->Ce P ops ds a0 V X R j o)/\O7 P ops ds a0 V B Q X R m o1 o2)
def sm{ds:List (Option Tmp)}{a0 V}{B:List XR->UN->Prop}{X:Nat->Option UV}{R:Nat->UV->UN->Prop}{i o}{Φ t:List Nat}(E:i<ops.size)(u:ops[i]?=Ts o)(J:Ce P ops ds a0 V X R i o)(h:ac1 P ops ds a0 V B Q X R (i+1) t)(x:∀j,j∈t->j<i+1->j<i/\j∈Φ\/X j≠U8/\∀o,ops[j]?=Ts o->BV P ops ds a0 X R j o):ac1 P ops ds a0 V B Q X R i Φ:=by
 rcases h with⟨s,h1,c,A⟩|⟨m,o1,o2,z,L,G,D,H,I,K,y,F,C,q,g⟩
 .refine .inl ⟨s,fun j f l b=>?_,c,fun e=>Ph⟩;by_cases d:j=i
  .subst d;obtain rfl:o=f:=Vm (u.symm.trans b);rw[if_neg (fun e=>by have:=A e.2;rw[e.1]at this;cases this)];exact J
  exact h1 j f Ph b
 refine .inr ⟨m,o1,o2,z,Ph,G,D,H,I,K,y,F,fun j l p=>?_,fun j f l r b=>?_,g⟩
 .rcases C j l p with⟨h1,c⟩|h
  .exact x j c h1
  exact .inr h
 by_cases d:j=i
 .subst d;obtain rfl:o=f:=Vm (u.symm.trans b);exact J
 exact q j f Ph r b
def ak.mono'{o a w}{G H:UV->UN->Prop}(h:ak P o a w G)(hi:∀v b,G v b->H v b):ak P o a w H:=by
 unfold ak at h⊢;split at h
 .exact hi _ _ h
 .exact hi _ _ h
 .exact h.mono fun e c⟨v,am,d⟩=>⟨v,am,hi _ _ d⟩
 exact h
def qC{ds:List (Option Tmp)}{a0 V}{B:List XR->UN->Prop}(O:ops.toList.map (·.dst)=ds):∀(os:List Xd)(i:Nat)(Γ:List (Nat×(UV->UN->Prop)))(Φ:List Nat)(a:List UV->Act)(q:Nat->Option UV)(r:Nat->UV->UN->Prop),
  ops.toList.drop i=os->i<=ops.size->(∀vs,a vs=eA ds a0 (gx q vs) i)->(∀p∈Γ,p.1<i/\q p.1=U8/\p.2=r p.1)->(∀j∈Φ,j<i)->(∀j v w b,r j v w->aq w b->r j v b)->gc P ops V B Q i os Γ Φ a->
  ∃(X:Nat->Option UV)(R:Nat->UV->UN->Prop),(∀j,j<i->X j=q j/\R j=r j)/\(∀j v w b,R j v w->aq w b->R j v b)/\ac1 P ops ds a0 V B Q X R i Φ
 |[],i,Γ,Φ,a,q,r,I,hi,ha,Y,Z,hR,h=>by
  have K:i=ops.size:=by
   have:=congrArg Xt I;simp only[VT,Array.length_toList,VJ]at this;omega
  refine⟨q,r,fun _ _=>⟨rfl,rfl⟩,hR,.inl ⟨false,fun j o d W=>?_,fun _ vs b g hF=>?_,fun _=>rfl⟩⟩
  .have:=(UE.1 W).1;omega
  rw[<-K,<-ha];exact h vs b g fun p D=>by
   obtain⟨h1,c,A⟩:=Y p D;rw[A];exact hF _ c Ph
 |o::os,i,Γ,Φ,a,q,r,I,hi,ha,Y,Z,hR,h=>by
  have G:i<ops.size:=by
   have:=congrArg Xt I;simp only[VT,Array.length_toList,Up]at this;omega
  have W:ops[i]?=Ts o:=by
   have:=congrArg (fun l=>l[0]?) I;simpa using this
  have t:ops.toList.drop (i+1)=os:=by
   have:=congrArg (List.drop 1) I;simpa [List.drop_drop]using this
  have y:ds.getD i U8=o.dst:=rC O W;have agree:∀{X:Nat->Option UV}{R:Nat->UV->UN->Prop}{X1:Nat->Option UV}{R1:Nat->UV->UN->Prop},(∀j,j<i->X1 j=q j/\R1 j=r j)->(∀j,j<i+1->X j=X1 j/\R j=R1 j)->(∀j,j<i->X j=q j/\R j=r j):=fun h1 c j d=>⟨(c j Ph).1.trans (h1 j d).1,(c j Ph).2.trans (h1 j d).2⟩;have E:∀{X:Nat->Option UV}{R:Nat->UV->UN->Prop},(∀j,j<i->X j=q j/\R j=r j)->∀vs,a vs=eA ds a0 (gx X vs) i:=fun h1 vs=>by
   rw[ha vs];exact fj fun j d=>by unfold gx;rw[(h1 j d).1]
  have L:∀{X:Nat->Option UV}{R:Nat->UV->UN->Prop},(∀j,j<i->X j=q j/\R j=r j)->∀(vs:List UV)(w:UN),(∀j,X j=U8->bf ops i j=true->R j (vs.getD j VM) w)->∀p∈Γ,bf ops i p.1=true->p.2 (Fz vs p.1) w:=fun h1 vs w cf p D F=>by
   obtain⟨am,J,N⟩:=Y p D;have:=cf p.1 ((h1 _ am).1.trans J) F;rw[(h1 _ am).2,<-N]at this;exact this
  have knd:∀(x:UV)(Φ1:List Nat),(∀j∈Φ1,j<i+1)->gc P ops V B Q (i+1) os Γ Φ1 (fun vs=>(a vs).put o.dst x)->∃(X:Nat->Option UV)(R:Nat->UV->UN->Prop),(∀j,j<i->X j=q j/\R j=r j)/\(∀j v w b,R j v w->aq w b->R j v b)/\X i=Ts x/\ac1 P ops ds a0 V B Q X R (i+1) Φ1:=fun x Φ1 hΦ1 z=>by
   have C:∀j,j<i->pA q i (Ts x) j=q j/\pA r i (fun _ _=>True) j=r j:=fun j d=>⟨fR Ph,fR Ph⟩
   obtain⟨X,R,h1,c,A⟩:=qC O os (i+1) Γ Φ1 _ (pA q i (Ts x)) (pA r i fun _ _=>True) t G (fun vs=>by
    rw[eA,ha vs,y];rw[show gx (pA q i (Ts x)) vs i=x by unfold gx;rw[d7]];congr 1;exact fj fun j d=>by unfold gx;rw[fR Ph]) (fun p D=>by
     obtain⟨am,J,N⟩:=Y p D;exact⟨Ph,(C _ am).1.trans J,N.trans (C _ am).2.symm⟩) hΦ1 (fun j=>by
     by_cases u:j=i
     .subst u;rw[d7];exact fun _ _ _ _ _=>trivial
     rw[fR u];exact hR j) z
   exact⟨X,R,agree C h1,c,(h1 i Ph).1.trans d7,A⟩
  rcases h with⟨x,S,z⟩|⟨R,hRc,S,z⟩|⟨rfl,T,hgd,S⟩|⟨x,S,z⟩|⟨o2,rfl,M,hr2,hgd1,hgd2,S⟩
  .obtain⟨X,R,f,c,s,A⟩:=knd x Φ (fun j d=>by have:=Z j d;omega) z;refine⟨X,R,f,c,sm G W (fun vs w g cf=>?_) A fun j d _=> .inl ⟨Z j d,d⟩⟩;have:=S vs w g (L f vs w cf);rw[E f vs]at this;split
   .next F=>
    rw[if_pos F]at this;have e:(fun v b=>dE X R i v b/\aq w b)=Is x (aq w):=by
     funext v b;unfold dE Is;rw[s]
    rw[e];exact this
   next F=>rw[if_neg F]at this;rw[s,this]
  .have C:∀j,j<i->pA q i U8 j=q j/\pA r i R j=r j:=fun j d=>⟨fR Ph,fR Ph⟩
   obtain⟨X,R1,h1,c,A⟩:=qC O os (i+1) ((i,R)::Γ) Φ _ (pA q i U8) (pA r i R) t G (fun vs=>by
    rw[eA,ha vs,y];rw[show gx (pA q i U8) vs i=vs.getD i VM by unfold gx;rw[d7]];congr 1;exact fj fun j d=>by unfold gx;rw[fR Ph]) (fun p D=>by
     rcases VN.1 D with rfl|D
     .exact⟨Ph,d7,d7.symm⟩
     .obtain⟨am,J,N⟩:=Y p D;exact⟨Ph,(C _ am).1.trans J,N.trans (C _ am).2.symm⟩) (fun j d=>by have:=Z j d;omega) (fun j=>by
     by_cases u:j=i
     .subst u;rw[d7];exact hRc
     rw[fR u];exact hR j) z
   have f:=agree C h1;have s:X i=U8:=(h1 i Ph).1.trans d7;have hRi:R1 i=R:=(h1 i Ph).2.trans d7;refine⟨X,R1,f,c,sm G W (fun vs w g cf=>?_) A fun j d _=> .inl ⟨Z j d,d⟩⟩;have:=S vs w g (L f vs w cf);rw[E f vs]at this;rw[if_pos this.1];have e:(fun v b=>dE X R1 i v b/\aq w b)=fun v b=>R v b/\aq w b:=by
    funext v b;unfold dE;rw[s,hRi]
   rw[e];exact this.2
  .have K:i+1=ops.size:=by
    have:=congrArg Xt t;simp only[VT,Array.length_toList,VJ]at this;omega
   have f:∀j,j<i->q j=q j/\pA r i (fun _ _=>True) j=r j:=fun j d=>⟨rfl,fR Ph⟩;refine⟨q,pA r i fun _ _=>True,f,fun j=>?_,.inl ⟨true,fun j oj d U=>?_,(fun h=>Rw),fun e=>Ph⟩⟩
   .by_cases u:j=i
    .subst u;rw[d7];exact fun _ _ _ _ _=>trivial
    rw[fR u];exact hR j
   have hjl:=(UE.1 U).1;obtain rfl:j=i:=Ph;obtain rfl:o=oj:=Vm (W.symm.trans U);rw[if_pos ⟨rfl,K⟩];refine⟨T,hgd,fun vs w g cf=>?_⟩;rw[y,<-ha vs];exact S vs w g fun p D=>by
    obtain⟨am,J,N⟩:=Y p D;have:=cf p.1 J am;rw[(f _ am).2,<-N]at this;exact this
  .obtain⟨X,R,f,c,s,A⟩:=knd x (i::Φ) (fun j d=>by
    rcases VN.1 d with rfl|d
    .omega
    have:=Z j d;omega) z
   have pf:∀(vs:List UV),(∀j,X j=U8->bf ops i j=true->∃w0,R j (vs.getD j VM) w0)->∀p∈Γ,bf ops i p.1=true->∃w0,p.2 (Fz vs p.1) w0:=fun vs cf p D F=>by
    obtain⟨am,J,N⟩:=Y p D;obtain⟨w0,this⟩:=cf p.1 ((f _ am).1.trans J) F;rw[(f _ am).2,<-N]at this;exact⟨w0,this⟩
   refine⟨X,R,f,c,sm G W (fun vs w g cf=>?_) A fun j d _=>?_⟩
   .obtain⟨F,H⟩:=S vs w (pf vs fun j m d=>⟨w,cf j m d⟩);rw[E f vs]at F H;rw[if_pos F];refine H.mono' fun v b h=>?_;obtain⟨rfl,rfl⟩:=h;refine⟨?_,P0⟩;unfold dE;rw[s]
   rcases VN.1 d with rfl|d
   .refine .inr ⟨by rw[s];simp,fun oj U vs w cf=>?_⟩;obtain rfl:o=oj:=Vm (W.symm.trans U);obtain⟨F,H⟩:=S vs w (pf vs cf);rw[E f vs]at F H;exact⟨F,x,s,H⟩
   exact .inl ⟨Z j d,d⟩
  have ho2:ops[i+1]?=Ts o2:=by
   have:=congrArg (fun l=>l[0]?) t;simpa using this
  have K:i+2=ops.size:=by
   have:=congrArg Xt t;simp only[VT,Array.length_toList,Up,VJ]at this;omega
  refine⟨q,r,fun _ _=>⟨rfl,rfl⟩,hR,.inr ⟨i,o,o2,Φ,UY _,K,W,ho2,hgd1,hgd2,M,hr2,fun j d hjΦ=> .inl ⟨d,hjΦ⟩,fun j _ h1 c=>Ph,fun vs w g cf=>?_⟩⟩;rw[y,rC O ho2,<-ha vs];exact S vs w g fun p D=>by
   obtain⟨am,J,N⟩:=Y p D;rw[N];exact cf p.1 J am
def bQ{id}{a:Act}{w}(l:DR ops=true)(K:P.follows .mixedOrders=true)(B:List XR->UN->Prop)(H:∀c G w,G.defers=a.defers->B c w->Q (.panic c) G w)(V)(L:aq V w)(h:gc P ops V B Q 0 ops.toList [] [] fun _=>a):(YK id ops true).wpIn (Wd r) 0 P Q a w:=by
 obtain⟨X,R,_,F,f⟩:=qC (ds:=ops.toList.map (·.dst)) (a0:=a) rfl ops.toList 0 [] [] (fun _=>a) (fun _=>U8) (fun _ _ _=>True) List.drop_zero (VF _) (fun _=>rfl) (fun p x=>Zbq) (fun p x=>Zbq) (fun _ _ _ _ _ _=>trivial) h;rcases f with⟨y,E,O,_⟩|⟨m,o1,o2,s,_,q2,T,I,N,J,S,M,D,g,C⟩
 .have U:=fun i o(q:ops[i]?=Ts o)=>E i o (VF _) q;exact xC (ops.toList.map (·.dst)) rfl K l H y V L X R F U O
 have A:∀j,j<m->j∈s->X j≠U8/\∀o,ops[j]?=Ts o->BV P ops (ops.toList.map (·.dst)) a X R j o:=fun j d b=>(D j d b).resolve_left (fun h=>by cases h.2);have z:=fun i o hi(q:ops[i]?=Ts o)=>g i o (VF _) hi q;have t:∀j,j<m->j∈s->X j≠U8:=fun j d b=>(A j d b).1;have u:∀j o,j<m->j∈s->ops[j]?=Ts o->BV P ops (ops.toList.map (·.dst)) a X R j o:=fun j o d b q=>(A j d b).2 o q;refine wB (P:=P) (ops:=ops) (Q:=Q) (B:=B) (a:=a) (ops.toList.map (·.dst)) rfl K l H V L X R F m q2 o1 o2 T I N J s ?_ ?_ t ?_ ?_ ?_
 .exact S
 .exact M
 .exact u
 .exact z
 exact C
variable {V:UN} {B:List XR->UN->Prop} {i:Nat} {o:Xd} {os:List Xd} {Γ:List (Nat×(UV->UN->Prop))} {Φ:List Nat} {a:List UV->Act}
def jD{x}(b:∀vs,Vr o (Xs ops (a vs).tmps)=true)(h:∀(vs:List UV)(w:UN),aq V w->(∀p∈Γ,bf ops i p.1=true->p.2 (Fz vs p.1) w)->ak P o (a vs) w (Is x (aq w)))(z:gc P ops V B Q (i+1) os Γ Φ fun vs=>(a vs).put o.dst x):gc P ops V B Q i (o::os) Γ Φ a:=
 .inl ⟨x,fun vs w g cf=>by rw[if_pos (b vs)];exact h vs w g cf,z⟩
def o8(b:∀vs,Vr o (Xs ops (a vs).tmps)=false)(z:gc P ops V B Q (i+1) os Γ Φ fun vs=>(a vs).put o.dst VM):gc P ops V B Q i (o::os) Γ Φ a:=
 .inl ⟨VM,fun vs w _ _=>by rw[if_neg (by rw[b vs];simp)],z⟩
def nZ(R:UV->UN->Prop)(d:∀v w b,R v w->aq w b->R v b)(f:∀vs,Vr o (Xs ops (a vs).tmps)=true)(h:∀(vs:List UV)(w:UN),aq V w->(∀p∈Γ,bf ops i p.1=true->p.2 (Fz vs p.1) w)->∀G:UV->UN->Prop,(∀v b,R v b->aq w b->G v b)->ak P o (a vs) w G)(z:gc P ops V B Q (i+1) os ((i,R)::Γ) Φ fun vs=>(a vs).put o.dst (Fz vs i)):gc P ops V B Q i (o::os) Γ Φ a:=
 .inr (.inl ⟨R,d,fun vs w g cf=>⟨f vs,h vs w g cf _ fun _ _ h1 c=>⟨h1,c⟩⟩,z⟩)
def rE{x}(d:∀vs,Vr o (Xs ops (a vs).tmps)=true)(h:∀(vs:List UV)(w:UN),(∀p∈Γ,bf ops i p.1=true->∃c,p.2 (Fz vs p.1) c)->ak P o (a vs) w (Is x fun b=>b=w))(z:gc P ops V B Q (i+1) os Γ (i::Φ) fun vs=>(a vs).put o.dst x):gc P ops V B Q i (o::os) Γ Φ a:=
 .inr (.inr (.inr (.inl ⟨x,fun vs w cf=>⟨d vs,h vs w cf⟩,z⟩)))
def oU{o2:Xd}(u:((We i).all fun j=>dL ops ops.size i j||Φ.contains j)=true)(f:((We (i+1)).all fun j=>dL ops ops.size (i+1) j)=true)(S:o.guard=U8)(l:o2.guard=U8)(h:∀(vs:List UV)(w:UN),aq V w->(∀p∈Γ,p.2 (Fz vs p.1) w)->∀G:UV->UN->Prop,(∀v b,aN P o2 ((a vs).put o.dst v) b B (fun v2 d=>Q .normal (((a vs).put o.dst v).put o2.dst v2) d)->G v b)->aN P o (a vs) w B G):gc P ops V B Q i [o,o2] Γ Φ a:=
 .inr (.inr (.inr (.inr ⟨o2,rfl,fun j c=>by
  have:=WE.1 u j Zdd
  simpa using this,fun j c=>WE.1 f j Zdd,S,l,fun vs w g cf=>h vs w g cf _ fun _ _ h=>h⟩)))
def qF(h:∀(vs:List UV)(w:UN),aq V w->(∀p∈Γ,p.2 (Fz vs p.1) w)->Q .normal (a vs) w):gc P ops V B Q i [] Γ Φ a:=h
end
end
section
open Go.Maps
def xZ(v:yZ)(a:Option VW)(c:Nat):UV:=UT #[Ti Tl v.account,Tm a v.names.length c,Ti Tt v.key,Ti Tl v.life]
def O4(n:Int)(w:UN):
  VB UB 189 #[Ti Tl n] w fun e b=>e=UO (U1 (decide (0<=n)&&decide (n<=1099511627776)))/\w=b:=by
 go_enter func189,ntmps189;go_upto_region 1 with fail;refine aG (fun b=>w=b) rfl ?_;exact TT
def Je(v:yZ)(a c w)(T:v.names.length<=c)(Q:c<=VL)(hl:js w a v.names):
  VB UB 125 #[xZ v a c] w (bM (U1 (lU v)) w):=by
 unfold VL at Q;refine P1 v.names.length fun n hn=>P4 hn hl fun O HL=>?_;unfold xZ;rw[hn]at T⊢;have E:vp UB 9 UH (fun s:ByteArray=>s.size<=VL):=uL underlying9;have hmm:= @run_makeMap UB;go_enter func125,ntmps125;go_wp2_with fail;refine P1 ((w.alloc (Tq #[Ti Tl v.account,Tm a n c,Ti Tt v.key,Ti Tl v.life] 149)).alloc (Obj.map #[] 0)) fun q d=>have y:aq w q:=Pz;have c0:q.cell? ⟨w.heap.size,0,U8⟩=Ts (Ti Tl v.account):=Pw;have c1:q.cell? ⟨w.heap.size,1,U8⟩=Ts (Tm a n c):=Pw;have c3:q.cell? ⟨w.heap.size,3,U8⟩=Ts (Ti Tl v.life):=Pw;?_;have m0:zR q (w.heap.size+1) []:=by rw[<-d];have:=cW.made UB 9 UH (fun s:ByteArray=>s.size<=VL) (w.alloc (Tq #[Ti Tl v.account,Tm a n c,Ti Tt v.key,Ti Tl v.life] 149));rwa[Ud]at this
 rw[d];refine PC y c0 c1 c3 m0 fun B C0 C1 C3 M0=>have D:q.heap.size=w.heap.size+2:=Zbf;have HZ:=Tn D;?_;go_loopw [11] (fun i wr=>∃(k:Nat)(m:List (ByteArray×UV)),k<=n/\i=Ti Tl k/\eZ ad8 [] (v.names.take k)=true/\Fr (fun b=>b=w.heap.size+1) q wr/\zR wr (w.heap.size+1) m/\K8 m (v.names.take k)) (fun i _=>n-(VS i).toNat)
 case atStart=>exact⟨0,[],VF _,rfl,rfl,Z5 _ _,M0,fun _=>rfl⟩
 obtain⟨k,m,o,rfl,x,P,K,hs⟩:=hrel;refine PC x K hs P (B.trans (P.below B.size (fun k o=>Ph))) fun W HM HS I u=>?_;have r:w.heap.size<q.heap.size:=by rw[HZ.out];omega
 by_cases R:k<n
 .obtain⟨p,x⟩:=ay O R;obtain⟨b,off,rfl,d0,t⟩:=(HL.ext u) k p x;rw[XT]at d0;refine P3 (tu (f:=ad8) x) (aW x) t fun HT S G=>have J:p.size<=9223372036854775807:=t;have hkc:k<=c:=Ph;?_;go_upto_region 6 with fail;refine aG (fun j=>aq wr j) P0 ?_;repeat
   (first|refine az rfl rfl rfl rfl ?_|refine aF rfl rfl rfl rfl ?_|refine aw rfl ?_|refine aj rfl rfl rfl rfl rfl ?_|((first|refine av (v:=?_) rfl rfl (fun hb j l=>?_) ?_|refine ar (v:=?_) rfl rfl rfl (fun Y hb j l=>?_) ?_|refine ax (v:=?_) rfl (fun j l=>?_) ?_);rotate_left;(focus(have elk:=((HM.ext l).run_lookup (mt:=240) E underlying240 (z:=U1 false) Pg (k:=p) G).trans (congrArg (fun v=>Result.ok v j) (HS p));unfold ak;go_simp;first|exact aD l|(refine(zq _ _ J).mono ?_;rintro e V⟨rfl,h2⟩;exact aH (aa l h2))))))
   simp only[Ua,P7]
  refine aA fun j g=>have H:Hid ((rP 110 (gX p.data.toList) !=0)= !ad8 p):=Tn (by unfold ad8;cases gX p.data.toList<;>rfl);?_;cases N:((rP 110 (gX p.data.toList) !=0)||iI (v.names.take k) p)
  .have X:=Tn (show eZ ad8 [] (v.names.take (k+1))=true by
    rw[HT.out,W.out];rw[H.out]at N;simp only[Bool.or_eq_false_iff,YD]at N
    rw[N.1,N.2];rfl)
   refine P4 (HM.ext g) (I.trans (Uh g)) fun Z U=>?_;go_wp2_with (at_mapUpdate;refine cK rfl _ _ _ 240 rfl E underlying240 rfl Z.out p _ rfl rfl G.out ?_;intro w1 A F M;refine P4 A F fun QM QF=>?_)
   go_roundw
   case rel=>exact⟨k+1,_,Ph,Pt,X,U.trans QF,QM,by rw[S.out];exact HS.out.put p⟩
   case measure=>simp[VS];omega
  have X:=Tn (show lU v=false by
   have:eZ ad8 [] (v.names.take (k+1))=false:=by
    rw[HT.out,W.out];rw[H.out]at N;exact Tx
   unfold lU;rw[Au this];rfl)
  go_wp2_with fail;all_goals
   go_ret
   exact⟨bV X.symm,aa u g⟩
 obtain rfl:k=n:=by omega
 have c0:=(I.cell (p:=⟨w.heap.size,0,U8⟩) r (show¬w.heap.size=w.heap.size+1 from Ph)).trans C0;have c1:=(I.cell (p:=⟨w.heap.size,1,U8⟩) r (show¬w.heap.size=w.heap.size+1 from Ph)).trans C1;have c3:=(I.cell (p:=⟨w.heap.size,3,U8⟩) r (show¬w.heap.size=w.heap.size+1 from Ph)).trans C3;have C:eZ ad8 [] v.names=true:=by have:=W.out;rwa[VD (by rw[O.out];omega)]at this
 have L:=Tn (show lU v=((decide (0<=v.account)&&decide (v.account<=1099511627776))&&(decide (0<=v.life)&&decide (v.life<=1099511627776))&&decide (1<=(k:Int))&&decide ((k:Int)<=8)) by
  unfold lU;rw[C,O.out,Wo,show decide (1<=(k:Int))=decide (1<=k)from QC,show decide ((k:Int)<=8)=decide (k<=8)from QC])
 go_upto_region 10 with fail;refine aG (fun j=>j=wr) rfl ?_;repeat
  (first|refine az rfl rfl rfl rfl ?_|refine aF rfl rfl rfl rfl ?_|refine aw rfl ?_|refine aj rfl rfl rfl rfl rfl ?_|((first|refine av (v:=?_) rfl rfl (fun hb j l=>?_) ?_|refine ar (v:=?_) rfl rfl rfl (fun Y hb j l=>?_) ?_|refine ax (v:=?_) rfl (fun j l=>?_) ?_);rotate_left;(focus(subst l;unfold ak;go_simp;first|exact aD rfl|(refine(O4 _ _).mono ?_;rintro e V⟨rfl,rfl⟩;exact aH rfl)))))
  simp only[Ua,P7]
 refine aA fun j g=>?_;subst g;go_wp2;go_ret;exact⟨bV L.symm,u⟩
end
section
open Go.Maps
def sX(i:Nat):UV:=Ti Tl (i:Int)
structure oP(w:UN)(base:Nat)(mb:List (ByteArray×UV))(f:ByteArray->List Nat):Prop where
 none':∀s,fi mb s=U8->f s=[]
 row:∀s v,fi mb s=Ts v->w.ownsRow base 3 1 v (f s).length ((f s).map sX)/\f s≠[]
 apart:∀s s' v v',fi mb s=Ts v->fi mb s'=Ts v'->s≠s'->v.ownBlock≠v'.ownBlock
def NF(b:List (ByteArray×UV))(s:ByteArray):UV:=(fi b s).getD (zz)
def oP.at{w base b}{f:ByteArray->List Nat}(h:oP w base b f)(s):w.ownsRow base 3 1 (NF b s) (f s).length ((f s).map sX):=by
 unfold NF;cases p:fi b s with
 |none=>rw[h.none' s p];exact WO _ _ _ _
 |some v=>exact(h.row s v p).1
def oP.start(w base):oP w base [] fun _=>[]:=⟨fun _ _=>rfl,fun _ _ h=>(by simp[fi]at h),fun _ _ _ _ h=>(by simp[fi]at h)⟩
def oP.block{w base b}{f:ByteArray->List Nat}(h:oP w base b f){s}{v:UV}(p:fi b s=Ts v):∃g,v.ownBlock=Ts g/\base<=g/\g<w.heap.size:=by
 obtain⟨h1,c⟩:=h.row s v p;rcases dD h1 with⟨_,A,_⟩|⟨g,cap,l,S,j,d,_⟩
 .exact absurd (VA A) c
 exact⟨g,S,j,d⟩
def oP.keep{w b:UN}{base c}{f:ByteArray->List Nat}(h:oP w base c f)(hb:∀s v g,fi c s=Ts v->v.ownBlock=Ts g->b.heap[g]?=w.heap[g]?):oP b base c f:=
 ⟨h.none',fun s v p=>⟨j8 (h.row s v p).1 fun g S=>hb s v g p S,(h.row s v p).2⟩,h.apart⟩
def oP.ext{w b base d}{f:ByteArray->List Nat}(h:oP w base d f)(j:aq w b):oP b base d f:=
 h.keep fun s v g p S=>by
  obtain⟨g',h1,_,c⟩:=h.block p;rw[h1]at S;cases S;exact j.block _ c
def oP.push{w m:UN}{base k j}{f:ByteArray->List Nat}(h:oP w base j f)(s){l:UV}(r:m.ownsRow base 3 1 l ((f s).length+1) ((f s).map sX++[sX k]))(S:w.grownBy m (NF j s).ownBlock)(o:l.ownBlock=(NF j s).ownBlock\/l.ownBlock=Ts w.heap.size):oP m base (jn j s l) fun b=>if s=b then f s++[k]else f b:=by
 have d:∀b v,fi j b=Ts v->s≠b->v.ownBlock≠(NF j s).ownBlock:=fun b v p zs=>by
  obtain⟨g,h1,_,_⟩:=h.block p;unfold NF;cases z:fi j s with
  |none=>rw[h1];simp[Vt]
  |some u=>exact h.apart b s v u p z (fun e=>zs e.symm)
 refine⟨fun b p=>?_,fun b v p=>?_,fun s1 q t v2 h1 c zs=>?_⟩
 .rw[jW]at p;by_cases e:s=b
  .rw[if_pos e]at p;cases p
  rw[if_neg e]at p⊢;exact h.none' b p
 .rw[jW]at p;by_cases e:s=b
  .rw[if_pos e]at p;cases p;rw[if_pos e];refine⟨?_,Pm⟩;rw[WK,Uo];exact r
  rw[if_neg e]at p;rw[if_neg e];exact⟨(h.row b v p).1.kept S (.inr (d b v p e)),(h.row b v p).2⟩
 have new:∀b v,fi j b=Ts v->s≠b->v.ownBlock≠l.ownBlock:=fun b v p zs=>by
  rcases o with e|e
  .rw[e];exact d b v p zs
  obtain⟨g,g1,_,g2⟩:=h.block p;rw[e,g1];exact Zb8
 rw[jW]at h1 c;by_cases am:s=s1
 .rw[if_pos am]at h1;cases h1;rw[if_neg (fun e=>zs (am.symm.trans e))]at c;exact fun e=>new q v2 c (fun y=>zs (am.symm.trans y)) e.symm
 rw[if_neg am]at h1;by_cases x:s=q
 .rw[if_pos x]at c;cases c;exact new s1 t h1 am
 rw[if_neg x]at c;exact h.apart s1 q t v2 h1 c zs
def wm(q:Nat×Nat):UV:=UT #[Ti Tl (q.1:Int),Ti Tl (q.2:Int)]
def Bl(q:Nat×Nat):Prop:=q.1<4294967296/\q.2<4294967296
def arrPair:WideMaps.ArrKey UB 289 3 2:=⟨underlying289,Pg,Pg,Pg⟩
def Mq{n:Nat}(h:n<4294967296):(Lit.int Tl (n:Int)).wf=true:=by
 simp[Lit.wf,IntKind.min,IntKind.max,IntKind.bits,IntKind.signed];omega
def NN:vp UB 289 wm Bl where
 keyed:=Keyed.of_law arrPair.law
 key:=fun q⟨h1,c⟩=>⟨_,WideMaps.keyOf_pair arrPair underlying3 ⟨UB.types.size-1,Pg⟩ (Mq h1) (Mq c)⟩
 inj:=fun a b h=>by
  unfold wm at h;simp only[Value.agg.injEq,Array.mk.injEq,Yq,Value.int.injEq,true_and,and_true]at h;exact Prod.ext Ph Ph
abbrev ahH(w:UN)(b:Nat)(m:List ((Nat×Nat)×UV)):Prop:=cW UB 289 wm Bl w b m
def Ch(m:List ((Nat×Nat)×UV))(o:List (Nat×Nat)):Prop:=∀q,(fi m q).getD (U1 false)=U1 (decide (q∈o))
def Ch.put{m o}(h:Ch m o)(q):Ch (jn m q (U1 true)) (o++[q]):=fun b=>by
 rw[jW];by_cases e:q=b
 .subst e;simp
 rw[if_neg e,h b];simp[show¬b=q from fun c=>e c.symm]
structure cN(w0 w:UN)(mb:List (ByteArray×UV))(f:ByteArray->List Nat)(oM o:List (Nat×Nat))(ov:UV):Prop where
 ext:aq w0 w
 by':zR w w0.heap.size mb
 rows:oP w w0.heap.size mb f
 met:∃mm,ahH w (w0.heap.size+1) mm/\Ch mm oM
 out:w.ownsRow w0.heap.size 289 2 ov o.length (o.flatMap j9)
variable {w0 w:UN} {mb:List (ByteArray×UV)} {f:ByteArray->List Nat} {oM o:List (Nat×Nat)} {ov:UV}
def cN.start(b):cN b ((b.alloc (.map #[] 0)).alloc (.map #[] 0)) [] (fun _=>[]) [] [] (zz) where
 ext:=af (af P0 _) _
 by':=(cW.made UB 9 UH (fun s:ByteArray=>s.size<=VL) b).ext (af P0 _)
 rows:=oP.start _ _
 met:=⟨[],by have:=cW.made UB 289 wm Bl (b.alloc (.map #[] 0));rwa[Ud]at this,fun _=>rfl⟩
 out:=WO _ _ _ _
def cN.ext'{b}(h:cN w0 w mb f oM o ov)(g:aq w b):cN w0 b mb f oM o ov where
 ext:=aa h.ext g
 by':=h.by'.ext g
 rows:=h.rows.ext g
 met:=by obtain⟨mm,h1,c⟩:=h.met;exact⟨mm,h1.ext g,c⟩
 out:=ee h.out g
def cN.out_apart(h:cN w0 w mb f oM o ov){s}{v:UV}{g:Nat}(p:fi mb s=Ts v)(S:v.ownBlock=Ts g):Ts g≠ov.ownBlock:=by
 rcases gR (h.rows.row s v p).1 h.out Pi with e|e
 .rw[S]at e;cases e
 rw[S]at e;exact e
def cN.push{d:UN}{l:UV}{q}(h:cN w0 w mb f oM o ov)(r:d.ownsRow w0.heap.size 289 2 l (o.length+1) (o.flatMap j9++j9 q))(S:w.grownBy d ov.ownBlock):cN w0 d mb f oM (o++[q]) l where
 ext:=h.ext.grown S (bE h.out)
 by':=h.by'.of_block (by
  obtain⟨m,b,hb,_⟩:=h.by'.heap
  exact S.block _ h.by'.lt (fun e=>cU h.out hb e.symm))
 rows:=h.rows.keep fun s v g p j=>by
  obtain⟨g',h1,_,c⟩:=h.rows.block p;rw[h1]at j;cases j;exact S.block _ c (h.out_apart p h1)
 met:=by
  obtain⟨mm,h1,c⟩:=h.met;refine⟨mm,h1.of_block ?_,c⟩;obtain⟨m,b,hb,_⟩:=h1.heap;exact S.block _ h1.lt (fun e=>cU h.out hb e.symm)
 out:=by rw[Xw,Uo];exact r
def cN.meet{j mm q}(h:cN w0 w mb f oM o ov)(z:Ch mm oM)(h1:ahH j (w0.heap.size+1) (jn mm q (.bool true)))(P:Fr (fun b=>b=w0.heap.size+1) w j)(hb:∃d c,w.heap[w0.heap.size+1]?=Ts (.map d c)):
  cN w0 j mb f (oM++[q]) o ov where
 ext:=h.ext.trans (P.below h.ext.size (fun k r=>Ph))
 by':=h.by'.fr P Ph
 rows:=h.rows.keep fun s v g p l=>by
  obtain⟨g',am,_,m⟩:=h.rows.block p;rw[am]at l;cases l;obtain⟨d,c,K⟩:=hb;exact P.block _ m fun e=>cU (h.rows.row s v p).1 K (by rw[am,e])
 met:=⟨_,h1,z.put q⟩
 out:=eM h.out P fun g S e=>by
  obtain⟨d,c,K⟩:=hb;exact cU h.out K (by rw[S,e])
def cN.book{l y:UN}{u:UV}{s k}(h:cN w0 w mb f oM o ov)(r:l.ownsRow w0.heap.size 3 1 u ((f s).length+1) ((f s).map sX++[sX k]))(S:w.grownBy l (NF mb s).ownBlock)(z:u.ownBlock=(NF mb s).ownBlock\/u.ownBlock=Ts w.heap.size)(c:zR y w0.heap.size (jn mb s u))(P:Fr (fun b=>b=w0.heap.size) l y):
  cN w0 y (jn mb s u) (fun x=>if s=x then f s++[k]else f x) oM o ov:=by
 have q:=h.ext.grown S (bE (h.rows.at s));have M:=h.rows.push s r S z;have t:∃j d,l.heap[w0.heap.size]?=Ts (.map j d):=by
  obtain⟨j,d,hb,_⟩:=h.by'.heap;exact⟨j,d,(S.block _ h.by'.lt (fun e=>cU (h.rows.at s) hb e.symm)).trans hb⟩
 have m:l.ownsRow w0.heap.size 289 2 ov o.length (o.flatMap j9):=h.out.kept S (gR h.out (h.rows.at s) Pi);refine⟨q.trans (P.below q.size (fun k D=>Ph)),c,M.keep fun x v g p A=>?_,?_,eM m P fun g S e=>?_⟩
 .obtain⟨g',am,_,B⟩:=M.block p;rw[am]at A;cases A;obtain⟨j,d,K⟩:=t;exact P.block _ B fun e=>cU (M.row x v p).1 K (by rw[am,e])
 .obtain⟨mm,m1,C⟩:=h.met;refine⟨mm,(m1.of_block ?_).fr P Ph,C⟩;obtain⟨j,d,hb,_⟩:=m1.heap;exact S.block _ m1.lt (fun e=>cU (h.rows.at s) hb e.symm)
 obtain⟨j,d,K⟩:=t;exact cU m K (by rw[S,e])
def cN.by_grown{c s}(h:cN w0 w mb f oM o ov)(S:w.grownBy c (NF mb s).ownBlock):zR c w0.heap.size mb:=
 h.by'.of_block (by
  obtain⟨d,b,hb,_⟩:=h.by'.heap
  exact S.block _ h.by'.lt (fun e=>cU (h.rows.at s) hb e.symm))
def p9(l:List b7)(k:Nat)(ps:List ByteArray)(f:ByteArray->List Nat):Prop:=∀s x,x∈f s↔((x<k/\∃r,l[x]?=Ts r/\s∈r.pats)\/(x=k/\s∈ps))
def oA(l:List b7)(k:Nat)(ps:List ByteArray)(o:List (Nat×Nat)):Prop:=∀q,q∈o↔(q.1<q.2/\((q.2<k/\lL l q.1 q.2=true)\/(q.2=k/\∃r p,l[q.1]?=Ts r/\p∈ps/\p∈r.pats)))
def vF(l:List b7)(k:Nat)(ps:List ByteArray)(b:List Nat)(m:Nat)(o:List (Nat×Nat)):Prop:=∀q,q∈o↔((q.1<q.2/\((q.2<k/\lL l q.1 q.2=true)\/(q.2=k/\∃r p,l[q.1]?=Ts r/\p∈ps/\p∈r.pats)))\/(q.2=k/\q.1≠k/\q.1∈b.take m))
def p9.start(l):p9 l 0 [] fun _=>[]:=fun s x=>Pm
def oA.start(l):oA l 0 [] []:=fun q=>Pm
def p9.next{l k ps}{f:ByteArray->List Nat}(h:p9 l k ps f)(p):p9 l k (ps++[p]) fun s=>if p=s then f p++[k]else f s:=fun s x=>by
 by_cases e:p=s
 .subst e;simp only[if_pos];rw[WD,h p x,VP,WD,VP];constructor
  .rintro((h|⟨h1,c⟩)|h)
   .exact .inl h
   .exact .inr ⟨h1,.inl c⟩
   exact .inr ⟨h,.inr rfl⟩
  rintro(h|⟨h1,c|_⟩)
  .exact .inl (.inl h)
  .exact .inl (.inr ⟨h1,c⟩)
  exact .inr h1
 simp only[if_neg e];rw[h s x,WD,VP];constructor
 .rintro(h|⟨h1,c⟩)
  .exact .inl h
  exact .inr ⟨h1,.inl c⟩
 rintro(h|⟨h1,c|c⟩)
 .exact .inl h
 .exact .inr ⟨h1,c⟩
 exact absurd c.symm e
def p9.close{l k}{r:b7}{f:ByteArray->List Nat}(u:l[k]?=Ts r)(h:p9 l k r.pats f):p9 l (k+1) [] f:=fun s x=>by
 rw[h s x];constructor
 .rintro(⟨h1,c⟩|⟨rfl,c⟩)
  .exact .inl ⟨Ph,c⟩
  exact .inl ⟨Ph,r,u,c⟩
 rintro(⟨h1,b,c,A⟩|⟨_,c⟩)
 .by_cases e:x=k
  .subst e;rw[u]at c;cases c;exact .inr ⟨rfl,A⟩
  exact .inl ⟨Ph,b,c,A⟩
 cases c
def oA.open{l k ps o}(h:oA l k ps o)(b):vF l k ps b 0 o:=fun q=>by
 rw[h q];simp
def vF.skip{l}{k m x:Nat}{ps b o}(h:vF l k ps b m o)(d:b[m]?=Ts x)(z:x=k\/(x,k)∈o):vF l k ps b (m+1) o:=fun q=>by
 rw[aW d,WD,VP];constructor
 .intro N;exact Us
 rintro(h1|⟨h1,c,A|A⟩)
 .exact(h q).2 (.inl h1)
 .exact(h q).2 (.inr ⟨h1,c,A⟩)
 rcases z with e|e
 .exact absurd (A.trans e) c
 rwa[show q=(x,k)from Prod.ext A h1]
def vF.add{l}{k m x:Nat}{ps b o}(h:vF l k ps b m o)(d:b[m]?=Ts x)(zs:x≠k):vF l k ps b (m+1) (o++[(x,k)]):=fun q=>by
 rw[aW d,WD,WD,VP,VP];constructor
 .rintro(N|rfl)
  .exact Us
  exact .inr ⟨rfl,zs,.inr rfl⟩
 rintro(h1|⟨h1,c,A|A⟩)
 .exact .inl ((h q).2 (.inl h1))
 .exact .inl ((h q).2 (.inr ⟨h1,c,A⟩))
 exact .inr (Prod.ext A h1)
def vF.close{l k ps p}{f:ByteArray->List Nat}{o}(cf:p9 l k ps f)(h:vF l k ps (f p) (f p).length o):oA l k (ps++[p]) o:=fun q=>by
 rw[h q,Yi];constructor
 .rintro(⟨h1,c|⟨c,r,g,A,b,d⟩⟩|⟨h1,c,A⟩)
  .exact⟨h1,.inl c⟩
  .exact⟨h1,.inr ⟨c,r,g,A,Xz _ b,d⟩⟩
  rcases(cf p q.1).1 A with⟨g1,r,g2,g3⟩|⟨g1,_⟩
  .exact⟨Ph,.inr ⟨h1,r,p,g2,Pm,g3⟩⟩
  exact absurd g1 c
 rintro⟨h1,c|⟨c,r,g,A,b,d⟩⟩
 .exact .inl ⟨h1,.inl c⟩
 rcases WD.1 b with b|b
 .exact .inl ⟨h1,.inr ⟨c,r,g,A,b,d⟩⟩
 rw[VP]at b;subst b;exact .inr ⟨c,Ph,(cf g q.1).2 (.inl ⟨Ph,r,A,d⟩)⟩
def oA.close{l k}{r:b7}{o}(u:l[k]?=Ts r)(h:oA l k r.pats o):oA l (k+1) [] o:=fun q=>by
 rw[h q];constructor
 .rintro⟨h1,⟨c,A⟩|⟨c,f,g,A,b,d⟩⟩
  .exact⟨h1,.inl ⟨Ph,A⟩⟩
  exact⟨h1,.inl ⟨Ph,gL.2 ⟨f,r,g,A,by rw[c];exact u,d,b⟩⟩⟩
 rintro⟨h1,⟨c,A⟩|⟨_,_,_,_,b,_⟩⟩
 .refine⟨h1,?_⟩;by_cases e:q.2=k
  .obtain⟨x,y,p,g1,g2,g3,g4⟩:=gL.1 A;rw[e,u]at g2;cases g2;exact .inr ⟨e,x,p,g1,g4,g3⟩
  exact .inl ⟨Ph,A⟩
 cases b
def oA.all{l}{o:List (Nat×Nat)}(h:oA l l.length [] o):∀q,q∈o↔q.1<q.2/\lL l q.1 q.2=true:=fun q=>by
 rw[h q];constructor
 .rintro⟨h1,⟨_,A⟩|⟨_,_,_,_,b,_⟩⟩
  .exact⟨h1,A⟩
  cases b
 rintro⟨h1,c⟩;obtain⟨x,y,p,_,g2,_⟩:=gL.1 c;exact⟨h1,.inl ⟨(UU.1 g2).1,c⟩⟩
def Eg{n:Nat}{o:List (Nat×Nat)}(hn:o.Nodup)(h:∀q∈o,q.1<n/\q.2<n):o.length<=n*n:=by
 have:=nC (m:=(We n).flatMap fun i=>(We n).map fun k=>(i,k)) hn fun q N=>by
  obtain⟨h1,c⟩:=h q N;exact List.mem_flatMap.2 ⟨q.1,List.mem_range.2 h1,Wl.2 ⟨q.2,List.mem_range.2 c,rfl⟩⟩
 rw[dN (m:=n) (fun i=>by rw[VR,List.length_range]),List.length_range]at this;exact this
end
section
open Go.Maps
def yg(i:Int):UV:=Ti Tl i
def IE{base}{l:List Int}(hn:l.length=n)(h:w.ownsRow base e 1 v n (l.map yg)):Ke 1 wC w v l:=by
 have am:l.flatMap (fun i=>[yg i])=l.map yg:=by
  clear h hn;induction l with
  |nil=>rfl
  |cons x l c=>rw[Vh,WI,c];rfl
 rw[<-am]at h;exact kZ (cells:=fun i=>[yg i]) (fun _=>rfl) (fun b o x _ J=>J 0 _ rfl) hn h
def fm(w:UN)(b:Nat)(c:Bool)(at':Int)(d:UV):Prop:=w.heap[b]?=Ts (Tq #[U1 c,Ti Tl at',d] 145 (0,0))
def fm.cells{b c d}(h:fm w b c at' d):w.cell? ⟨b,0,U8⟩=Ts (U1 c)/\w.cell? ⟨b,1,U8⟩=Ts (Ti Tl at')/\w.cell? ⟨b,2,U8⟩=Ts d:=by
 unfold fm at h;simp[Wc,h]
def fm.frozen{b c d}(h:fm w b c at' d)(j:Nat):w.frozen? ⟨b,j,U8⟩=false:=VQ w b j _ _ h
def fm.lt{b c d}(h:fm w b c at' d):b<w.heap.size:=(UE.1 h).1
def fm.set0{b f d}(h:fm w b f at' d)(c):fm (w.setCell ⟨b,0,U8⟩ (U1 c)) b c at' d:=(VE w b 0 _ _ _ h).trans Pm
def fm.set1{b d f}(h:fm w b d at' f)(c):fm (w.setCell ⟨b,1,U8⟩ (Ti Tl c)) b d c f:=(VE w b 1 _ _ _ h).trans Pm
def fm.set2{b d f}(h:fm w b d at' f)(c):fm (w.setCell ⟨b,2,U8⟩ c) b d at' c:=(VE w b 2 _ _ _ h).trans Pm
def fm.ext{b c f}(h:fm w b c at' f)(g:aq w d):fm d b c at' f:=(g.block b h.lt).trans h
def fm.fr{f b d c}(h:fm w b d at' c)(P:Fr S w f)(z:¬S b):fm f b d at' c:=(P.block b h.lt z).trans h
def fm.new(w:UN)(b at' c):fm (w.alloc (Tq #[U1 b,Ti Tl at',c] 145)) w.heap.size b at' c:=UZ w _
def vL{base}{c:List UV}(h:w.ownsRow base e m v (k+1) c):∃g cap,v=Tm (Ts ⟨g,0,U8⟩) (k+1) cap:=by
 rcases dD h with⟨_,L,_⟩|⟨g,cap,b,_⟩
 .omega
 exact⟨g,cap,b⟩
def OK(l v)(d:ByteArray->Int)(st s):(CV l v d st s).by'=st.by'++[d s]:=rfl
def co(l:List b7)(v:yZ)(d:ByteArray->Int)(k:Nat):aj8:=(v.names.take k).foldl (CV l v d) ⟨true,0,[]⟩
def vN{l}{v:yZ}{d:ByteArray->Int}(h:v.names[k]?=Ts s):co l v d (k+1)=CV l v d (co l v d k) s:=by
 unfold co;exact jz h _ _
def sO(l)(v:yZ)(d:ByteArray->Int):∀(k:Nat),k<=v.names.length->(co l v d k).by'.length=k
 |0,_=>rfl
 |k+1,h=>by
  have z:v.names[k]?=Ts (v.names[k]'Ph):=V8 Ph;rw[vN z,OK,Uo,sO l v d k Ph];rfl
def JV(l v)(d:ByteArray->Int):co l v d v.names.length=cJ l v d:=by
 unfold co cJ;rw[Yi]
def Lu{l v}{r:b7}(h:l[i]?=Ts r):Ew l v (i:Int)=(((i:Int) !=-1)&&r.allow&&decide (r.keyMin<=v.key)&&decide (0<v.life)&&decide (v.life<=r.lifeMax)):=by
 unfold Ew;rw[XU,h];have am:decide (0<=(i:Int))=((i:Int) !=-1):=by
  rw[show((i:Int) !=-1)=true by rw[bne_iff_ne];omega];simp
 have b:decide (1<=v.life)=decide (0<v.life):=by congr 1
 simp only[am,b]
def zj(l v):Ew l v (-1)=false:=by
 unfold Ew;split<;>rfl
def iH{l}{v:yZ}{d:ByteArray->Int}{x}{b ok:Bool}(h:v.names[k]?=Ts s)(m:d s=x)(c:(co l v d k).allow=b)(f:Ew l v x=ok):
  co l v d (k+1)=⟨b&&ok,if b&& !ok then(k:Int)else(co l v d k).at',(co l v d k).by'++[x]⟩:=by
 rw[vN h];unfold CV;rw[m,c,f,sO l v d k (Yn (UU.1 h).1)]
def ahV(x:aj8)(w:UN)(e:Xo)(b:UN):Prop:=∃a c,e=UO (agU x a c)/\x.by'.length<=c/\c<=VL/\rx b a x.by'/\(∀p,a=Ts p->w.heap.size<=p.block)/\aq w b
def acG{l}(h:rx w a l)(P:Fr S w d)(z:∀p,a=Ts p->¬S p.block):rx d a l:=fun i x m=>by
 obtain⟨b,off,c,h1⟩:=h i x m;refine⟨b,off,c,?_⟩;unfold wC at h1⊢;exact(P.cell (p:=⟨b,off+i*1,U8⟩) (aR h1) (z ⟨b,off,U8⟩ c)).trans h1
def adM{x:aj8}{base}{f:UV}(hn:x.by'.length=n)(r:b.ownsRow base 3 1 f n (x.by'.map yg))(hb:w.heap.size<=base)(g:aq w b):ahV x w (UO (UT #[U1 x.allow,Ti Tl x.at',f])) b:=by
 obtain⟨a,c,d,h1,l,A⟩:=IE hn r;refine⟨a,c,by rw[d];rfl,h1,l,A,fun p j=>?_,g⟩;rw[d,j]at r;exact VG hb (bE r p.block rfl)
def BM(l:List b7)(v:yZ)(d:ByteArray->Int)(g)(cb:Array UV)(a cap n va vc w)(hn:l.length=n)(hnc:n<=cap)(_hcm:cap<=VL)(hl:qz w a l)(hvc:v.names.length<=vc)(_hvm:vc<=VL)(hv:js w va v.names)(hfew:v.names.length<=1000)(eg:∀args w,(callFunc g args).run UB w= .ok (.enter g args) w)(y:∀s∈v.names,∀G,aq w G->VB UB g (#[UH s]++cb) G (bM (Ti Tl (d s)) G))(u:∀s∈v.names,d s=-1\/∃i:Nat,i<n/\d s=i):
  VB UB 126 #[Tm a n cap,xZ v va vc,.func (.func g) #[] cb] w (ahV (cJ l v d) w):=by
 obtain⟨i1,gi,gz0,gz1,gz2⟩:=WN infoInt;refine PC hn hl hv y u fun HN HL HV HD Z=>P1 v.names.length fun m K=>have HM:=Tn K;?_;unfold xZ;rw[K]at hvc hfew⊢;go_enter func126,ntmps126;go_wp2_with fail;refine P1 (((w.alloc (Tq #[Ti Tl v.account,Tm va m vc,Ti Tt v.key,Ti Tl v.life] 149)).alloc (Tq #[U1 false,Ti Tl 0,zz] 145)).alloc (Tq #[U1 true,Ti Tl 0,zz] 145)) fun f E=>?_;have hE0:aq w f:=by rw[<-E];exact af (af (af P0 _) _) _
 have c1:f.cell? ⟨w.heap.size,1,U8⟩=Ts (Tm va m vc):=Zav;have c2:f.cell? ⟨w.heap.size,2,U8⟩=Ts (Ti Tt v.key):=Zav;have c3:f.cell? ⟨w.heap.size,3,U8⟩=Ts (Ti Tl v.life):=Zav;have hz:f.heap.size=w.heap.size+3:=by rw[<-E];simp
 have b1:fm f (w.heap.size+1) false 0 (zz):=by
  rw[<-E];have:=fm.new (w.alloc (Tq #[Ti Tl v.account,Tm va m vc,Ti Tt v.key,Ti Tl v.life] 149)) false 0 (zz);rw[Ud]at this;exact this.ext (af P0 _)
 have b2:fm f (w.heap.size+1+1) true 0 (zz):=by
  rw[<-E];have:=fm.new ((w.alloc (Tq #[Ti Tl v.account,Tm va m vc,Ti Tt v.key,Ti Tl v.life] 149)).alloc (Tq #[U1 false,Ti Tl 0,zz] 145)) true 0 (zz);rwa[Ud,Ud]at this
 refine P9 hE0 c2 c3 hz b1 b2 fun B C2 C3 HZ B1 B2=>?_;rw[E];go_loopw [16] (fun i wr=>∃(k:Nat)(bv:UV),k<=m/\i=Ti Tl k/\fm wr (w.heap.size+1+1) (co l v d k).allow (co l v d k).at' bv/\wr.ownsRow f.heap.size 3 1 bv k ((co l v d k).by'.map yg)/\Fr (fun b=>b=w.heap.size+1+1) f wr) (fun i _=>m-(VS i).toNat)
 case atStart=>exact⟨0,_,VF _,rfl,B2,WO _ _ _ _,Z5 _ _⟩
 obtain⟨k,bv,o,rfl,hb,hown,P⟩:=hrel;refine P5 hb hown P (B.trans (P.below B.size (fun k o=>Ph))) fun HB F HF HEW=>have hzz:=HZ.out;have hzr:=P.size;?_;by_cases R:k<m
 .obtain⟨s,z⟩:=ay HM R;obtain⟨b,off,rfl,d0,hsz⟩:=(HV.ext HEW) k s z;rw[XT]at d0;have HS:=Tn z;have W:=Uv z;have HC:=Tn (HD s W);have hkc:k<=vc:=Ph;have J:=Z.out s W;refine P1 (d s) fun x hx=>have HX:=Tn hx;?_;rw[hx]at J
  go_wp2_with (first
   |(
     go_at_fn g;refine P2 (HC _ HEW) fun w1 q=>?_;rw[HX.out]
     have V:=HB.out.ext q;obtain⟨k0,k1,k2⟩:=V.cells;refine P3 V (ee F q) q fun HB1 HO1 HE1=>have hz1:=q.size;?_
     clear V q)
   |(
     at_builtin;refine wpList_append_own _ rfl _ _ 84 rfl f.heap.size 3 i1 (Ti Tl 0) 1 8 underlying84 gi gz0 gz1 gz2 rfl Pi bv _ _ rfl (HO1.alloc _) ⟨w1.heap.size,0,U8⟩ 1 1 [Ti Tl x] rfl rfl (d9 _ _ _) Pu Pr Ph Pp ?_
     intro v' w2 H M _;obtain⟨g',A,rfl⟩:=vL H;have hF2:=ZG M;have ac:=(HB1.ext (af P0 _)).fr hF2 (fun e=>by have:=bE F _ e;omega);have fz:=ac.frozen 2;obtain⟨g0,g1,g2⟩:=ac.cells;refine P3 ac H hF2 fun HB2 HO2 HF2=>?_
     clear ac H M hF2))
  refine P1 (w2.setCell ⟨w.heap.size+1+1,2,U8⟩ (Tm (Ts ⟨g',0,U8⟩) (k+1) A)) fun O X=>?_;have hb3:fm O (w.heap.size+1+1) (co l v d k).allow (co l v d k).at' (Tm (Ts ⟨g',0,U8⟩) (k+1) A):=by rw[<-X];exact HB2.out.set2 _
  have ho3:=by have:=ownsRow_setCell_below HO2 (a:=⟨w.heap.size+1+1,2,U8⟩) (show w.heap.size+1+1<f.heap.size from Ph) (Tm (Ts ⟨g',0,U8⟩) (k+1) A);rw[X]at this;exact this
  have Y:Fr (fun b=>b=w.heap.size+1+1) f O:=by
   rw[<-X];exact((((HF.trans (Uh HE1)).trans (Fr.alloc _ _ _)).onto HF2 (fun j Q S=>by have:=bE F _ S;omega))).trans (Uz _ _ _ rfl)
  rw[X];refine P5 hb3 ho3 Y (B.trans (Y.below B.size (fun k o=>Ph))) fun HB3 U T Id=>have c2:=(Y.cell (p:=⟨w.heap.size,2,U8⟩) (show w.heap.size<f.heap.size from Ph) (show¬w.heap.size=w.heap.size+1+1 from Ph)).trans C2;have c3:=(Y.cell (p:=⟨w.heap.size,3,U8⟩) (show w.heap.size<f.heap.size from Ph) (show¬w.heap.size=w.heap.size+1+1 from Ph)).trans C3;?_;rcases J with rfl|⟨i,hi,rfl⟩
  .refine aZ Pg Pg (fun G=>aq O G) ((Xg (fun _=>False) _).ext (fun _ _ h=>h)) ?_;repeat
    (first|refine az rfl rfl rfl rfl ?_|refine aF rfl rfl rfl rfl ?_|refine aw rfl ?_|refine aj rfl rfl rfl rfl rfl ?_|((first|refine av (v:=?_) rfl rfl (fun hb G I=>?_) ?_|refine ar (v:=?_) rfl rfl rfl (fun V hb G I=>?_) ?_|refine ax (v:=?_) rfl (fun G I=>?_) ?_);rotate_left;(focus(have e2:=ae c2 I;have e3:=ae c3 I;unfold ak;go_simp;first|exact aD I))))
    simp only[Ua,P7]
   refine aA fun G C=>have hb:=HB3.out.ext C;?_;cases c:(co l v d k).allow
   .have t:=Tn (iH HS HX c (zj l v));rw[c]at hb;obtain⟨g0,g1,g2⟩:=hb.cells;have D:=Tn hb;go_wp2;go_roundw
    case rel=>exact⟨k+1,_,Ph,Pt,Rl,Ql,T.trans (Uh C)⟩
    case measure=>simp[VS];omega
   have t:=Tn (iH HS HX c (zj l v));rw[c]at hb;obtain⟨g0,g1,g2⟩:=hb.cells;have fz0:=hb.frozen 0;have fz1:=hb.frozen 1;have D:=Tn hb;go_wp2;go_roundw
   case rel=>exact⟨k+1,_,Ph,Pt,Rx,Q7,((T.trans (Uh C)).trans (Uz _ _ _ rfl)).trans (Uz _ _ _ rfl)⟩
   case measure=>simp[VS];omega
  obtain⟨r,u⟩:=ay HN hi;obtain⟨b3,off3,rfl,_,r1,_,r3,r4,_,_,_,_⟩:=(HL.ext Id) i r u;have HOK:=Tn (Lu (v:=v) u);have hic:i<=cap:=Ph;refine aZ Pg Pg (fun G=>aq O G) ((Xg (fun _=>False) _).ext (fun _ _ h=>h)) ?_;repeat
   (first|refine az rfl rfl rfl rfl ?_|refine aF rfl rfl rfl rfl ?_|refine aw rfl ?_|refine aj rfl rfl rfl rfl rfl ?_|((first|refine av (v:=?_) rfl rfl (fun hb G I=>?_) ?_|refine ar (v:=?_) rfl rfl rfl (fun V hb G I=>?_) ?_|refine ax (v:=?_) rfl (fun G I=>?_) ?_);rotate_left;(focus(have e2:=ae c2 I;have e3:=ae c3 I;have s1:=ae r1 I;have s3:=ae r3 I;have s4:=ae r4 I;unfold ak;go_simp;first|exact aD I))))
   simp only[Ua,P7]
  refine aA fun G C=>have hb:=HB3.out.ext C;?_;cases N:(((i:Int) !=-1)&&r.allow&&decide (r.keyMin<=v.key)&&decide (0<v.life)&&decide (v.life<=r.lifeMax))
  .have HQ:=Tn (HOK.trans N);cases c:(co l v d k).allow
   .have t:=Tn (iH HS HX c HQ);rw[c]at hb;obtain⟨g0,g1,g2⟩:=hb.cells;have D:=Tn hb;go_wp2;go_roundw
    case rel=>exact⟨k+1,_,Ph,Pt,Rl,Ql,T.trans (Uh C)⟩
    case measure=>simp[VS];omega
   have t:=Tn (iH HS HX c HQ);rw[c]at hb;obtain⟨g0,g1,g2⟩:=hb.cells;have fz0:=hb.frozen 0;have fz1:=hb.frozen 1;have D:=Tn hb;go_wp2;go_roundw
   case rel=>exact⟨k+1,_,Ph,Pt,Rx,Q7,((T.trans (Uh C)).trans (Uz _ _ _ rfl)).trans (Uz _ _ _ rfl)⟩
   case measure=>simp[VS];omega
  have HQ:=Tn (HOK.trans N);cases c:(co l v d k).allow
  .have t:=Tn (iH HS HX c HQ);rw[c]at hb;obtain⟨g0,g1,g2⟩:=hb.cells;have D:=Tn hb;go_wp2;go_roundw
   case rel=>exact⟨k+1,_,Ph,Pt,Rl,Ql,T.trans (Uh C)⟩
   case measure=>simp[VS];omega
  have t:=Tn (iH HS HX c HQ);rw[c]at hb;obtain⟨g0,g1,g2⟩:=hb.cells;have D:=Tn hb;go_wp2;go_roundw
  case rel=>exact⟨k+1,_,Ph,Pt,Rl,Ql,T.trans (Uh C)⟩
  case measure=>simp[VS];omega
 obtain rfl:k=m:=by omega
 have HQ:=Tn (show co l v d k=cJ l v d by rw[<-HM.out,JV]);have hb:=HB.out;obtain⟨g0,g1,g2⟩:=hb.cells;have h1:=B1.out.fr HF (show¬w.heap.size+1=w.heap.size+1+1 from Ph);have fz0:=h1.frozen 0;have fz1:=h1.frozen 1;have fz2:=h1.frozen 2;obtain⟨e0,am,e2⟩:=h1.cells;have hlen:=sO l v d k Zae;have hext:=B.out.trans (HF.below B.size (fun k o=>Ph));obtain⟨g',A,rfl⟩:∃(g':Option VW)(A:Nat),bv=Tm g' k A:=by
  rcases dD F with⟨h,L,_⟩|⟨g',A,h,_⟩
  .exact⟨U8,0,by rw[h,L]⟩
  exact⟨_,_,h⟩
 refine P3 h1 hext hlen fun H1 HX HLN=>?_;go_wp2_with fail;refine PF wr (w.heap.size+1) (U1 (co l v d k).allow) (Ti Tl (co l v d k).at') (Tm g' k A) fun W4 ab=>?_;have hb4:fm W4 (w.heap.size+1) (co l v d k).allow (co l v d k).at' (Tm g' k A):=by rw[<-ab];exact((H1.set0 _).set1 _).set2 _
 have hx4:aq w W4:=by rw[<-ab];exact((HX.setCell (p:=⟨w.heap.size+1,0,U8⟩) Pm _).setCell (p:=⟨w.heap.size+1,1,U8⟩) Pm _).setCell (p:=⟨w.heap.size+1,2,U8⟩) Pm _
 have ho4:W4.ownsRow f.heap.size 3 1 (Tm g' k A) k ((co l v d k).by'.map yg):=by
  rw[<-ab];exact ownsRow_setCell_below (ownsRow_setCell_below (ownsRow_setCell_below F (show w.heap.size+1<f.heap.size from Ph) _) (show w.heap.size+1<f.heap.size from Ph) _) (show w.heap.size+1<f.heap.size from Ph) _
 obtain⟨q0,q1,q2⟩:=hb4.cells;rw[ab];refine VC (v:=UT #[U1 (co l v d k).allow,Ti Tl (co l v d k).at',Tm g' k A]) (by simp[results,results126,go_sem,q0,q1,q2]) rfl ?_;rw[<-HQ.out];exact adM HLN ho4 Ph hx4
end
section
open Go.Maps
def qj{α:Type}{f:α->α}:∀{l:List α}{j:Nat}{x:α},l[j]?=Ts x->l.modify j f=l.set j (f x)
 |[],j,x,h=>QX
 |y::l,0,x,h=>by simp at h;subst h;rfl
 |y::l,j+1,x,h=>by
  have b:l[j]?=Ts x:=QJ;rw[List.modify_succ_cons,List.set_cons_succ,qj b]
def Ie{α β:Type}:∀(l:List α)(m:List β)(j:Nat)(a:α)(b:β),(l.set j a).zip (m.set j b)=(l.zip m).set j (a,b)
 |[],_,_,_,_=>Pm
 |_::_,[],_,_,_=>Pm
 |_::l,_::m,0,a,b=>Pm
 |_::l,_::m,j+1,a,b=>by simp[Ie l m j a b]
def rk{α β:Type}:∀(l:List α)(m:List β)(j:Nat)(a:α)(b:β),m[j]?=Ts b->(l.set j a).zip m=(l.zip m).set j (a,b)
 |[],_,_,_,_,_=>Pm
 |_::_,[],_,_,_,h=>QX
 |_::l,_::m,0,a,b,h=>by simp at h;simp[h]
 |_::l,_::m,j+1,a,b,h=>by
  have c:m[j]?=Ts b:=QJ;simp[rk l m j a b c]
def uY{α β:Type}{m:Nat}{f:α->List β}(K:∀x,(f x).length=m):∀{l:List α}{j c:Nat}{x y:α}{u:β},l[j]?=Ts x->c<m->f y=(f x).set c u->(l.flatMap f).set (j*m+c) u=(l.set j y).flatMap f
 |[],j,c,x,y,u,h,_,_=>QX
 |z::l,0,c,x,y,u,h,J,U=>by
  simp at h;subst h;rw[Vh,List.set_cons_zero,Vh,Nat.zero_mul,VY,List.set_append_left _ _ (by rw[K];exact J),U]
 |z::l,j+1,c,x,y,u,h,J,U=>by
  have b:l[j]?=Ts x:=QJ;rw[Vh,List.set_cons_succ,Vh,List.set_append_right _ _ (by rw[K,ZC];omega),K,show(j+1)*m+c-m=j*m+c by rw[ZC];omega,uY K b J U]
def EF(q:Dv×UV):List UV:=[UH q.1.label,Ti Tl q.1.here',Ti Tl q.1.below,q.2]
structure aP(w:UN)(base:Nat)(v:UV)(ns:List Dv)(kvs:List UV):Prop where
 len:kvs.length=ns.length
 row:w.ownsRow base 152 4 v ns.length ((ns.zip kvs).flatMap EF)
 kids:∀(j:Nat)(x:Dv)(kv:UV),ns[j]?=Ts x->kvs[j]?=Ts kv->w.ownsRow base 3 1 kv x.kids.length (x.kids.map yg)
 apart:∀(i j:Nat)(ki kj:UV),kvs[i]?=Ts ki->kvs[j]?=Ts kj->i≠j->ki.ownBlock=U8\/ki.ownBlock≠kj.ownBlock
 sizes:∀x∈ns,x.label.size<=VL
variable {w:UN} {base:Nat} {v:UV} {ns:List Dv} {kvs:List UV}
def aP.kv(h:aP w base v ns kvs){j:Nat}{x:Dv}(m:ns[j]?=Ts x):∃b,kvs[j]?=Ts b/\(ns.zip kvs)[j]?=Ts (x,b):=by
 have Q:j<kvs.length:=by rw[h.len];exact(UU.1 m).1
 exact⟨kvs[j],V8 Q,List.getElem?_zip_eq_some.2 ⟨m,V8 Q⟩⟩
def aP.cells(h:aP w base v ns kvs){g cap j:Nat}{x:Dv}{b:UV}(d:v=Tm (Ts ⟨g,0,U8⟩) ns.length cap)(m:ns[j]?=Ts x)(o:kvs[j]?=Ts b):
  w.cell? ⟨g,j*4,U8⟩=Ts (UH x.label)/\w.cell? ⟨g,j*4+1,U8⟩=Ts (Ti Tl x.here')/\w.cell? ⟨g,j*4+2,U8⟩=Ts (Ti Tl x.below)/\w.cell? ⟨g,j*4+3,U8⟩=Ts b:=by
 have l:(ns.zip kvs)[j]?=Ts (x,b):=List.getElem?_zip_eq_some.2 ⟨m,o⟩;have c:∀(i:Nat)(u:UV),i<4->(EF (x,b))[i]?=Ts u->w.cell? ⟨g,j*4+i,U8⟩=Ts u:=fun i u hi X=>
  ir h.row (by rw[d];rfl) (by rw[fC (f:=EF) (fun _=>rfl) i l hi];exact X)
 exact⟨c 0 _ Pi rfl,c 1 _ Pi rfl,c 2 _ Pi rfl,c 3 _ Pi rfl⟩
def aP.form(h:aP w base v ns kvs)(hn:ns≠[]):∃g cap,v=Tm (Ts ⟨g,0,U8⟩) ns.length cap/\base<=g/\g<w.heap.size/\ns.length<=cap/\cap<=VL:=by
 rcases dD h.row with⟨_,L,_⟩|⟨g,cap,b,_,h1,c,A,d⟩
 .exact absurd (VA L) hn
 exact⟨g,cap,b,h1,c,A,d⟩
def aP.nods(h:aP w base v ns kvs):Ke 4 Jd w v ns:=by
 rcases dD h.row with⟨rfl,L,_⟩|⟨g,cap,d,S,_,_,J,b⟩
 .have p:ns=[]:=VA L;subst p;exact Tw
 refine⟨Ts ⟨g,0,U8⟩,cap,d,J,b,fun j x m=>⟨g,0,rfl,?_⟩⟩;obtain⟨r,o,_⟩:=h.kv m;obtain⟨c0,c1,c2,c3⟩:=h.cells d m o;obtain⟨a,c,e,q,l,f⟩:=IE rfl (h.kids j x r m o);rw[VY];exact⟨c0,c1,c2,⟨a,c,by rw[c3,e],q,l,f⟩,h.sizes x (Uv m)⟩
def aP.keep{b:UN}(h:aP w base v ns kvs)(f:∀g,v.ownBlock=Ts g->b.heap[g]?=w.heap[g]?)(o:∀(j:Nat)(d:UV)(g:Nat),kvs[j]?=Ts d->d.ownBlock=Ts g->b.heap[g]?=w.heap[g]?):aP b base v ns kvs where
 len:=h.len
 row:=j8 h.row f
 kids:=fun j x d h1 c=>j8 (h.kids j x d h1 c) fun g S=>o j d g c S
 apart:=h.apart
 sizes:=h.sizes
def aP.get(h:aP w base v ns kvs){j:Nat}{b:UV}(o:kvs[j]?=Ts b):∃x,ns[j]?=Ts x:=by
 have Q:j<ns.length:=by rw[<-h.len];exact(UU.1 o).1
 exact⟨_,V8 Q⟩
def aP.fr{S:Nat->Prop}{b}(h:aP w base v ns kvs)(P:Fr S w b)(z:∀g,base<=g->(∃c t f,w.heap[g]?=Ts (Tq c t f)/\(t=152\/t=3))->¬S g):aP b base v ns kvs:=by
 have key:∀{e:WR}{m n:Nat}{u:UV}{l:List UV},w.ownsRow base e m u n l->(e=152\/e=3)->∀g,u.ownBlock=Ts g->b.heap[g]?=w.heap[g]? :=fun{e m n u l}X r g d=>by
  rcases X.2 with⟨rfl,_⟩|⟨g',cap,q,rfl,hb,p,_⟩
  .simp[Vt]at d
  simp only[Vt,Vw]at d;subst d;exact P.block _ (UE.1 p).1 (z _ hb ⟨_,_,_,p,r⟩)
 exact h.keep (key h.row (.inl rfl)) fun j y g o d=>by
  obtain⟨x,s⟩:=h.get o;exact key (h.kids j x y s o) (.inr rfl) g d
def aP.ext{b}(h:aP w base v ns kvs)(c:aq w b):aP b base v ns kvs:=
 h.keep (fun g S=>c.block g (h.row.lt g S).2) fun j d g o S=>by
  obtain⟨x,m⟩:=h.get o;exact c.block g ((h.kids j x d m o).lt g S).2
def aP.push{b:UN}{f}{lab:ByteArray}(h:aP w base v ns kvs)(p:lab.size<=VL)(r:b.ownsRow base 152 4 f (ns.length+1) ((ns.zip kvs).flatMap EF++[UH lab,Ti Tl (-1),Ti Tl (-1),zz]))(S:w.grownBy b v.ownBlock):
  aP b base f (ns++[gN lab]) (kvs++[zz]) where
 len:=by simp[h.len]
 row:=by
  rw[List.zip_append h.len.symm,Xw,Uo];exact r
 kids:=fun j x l h1 c=>by
  by_cases Q:j<ns.length
  .rw[X9 Q]at h1;rw[X9 (by rw[h.len];exact Q)]at c;have o:=h.kids j x l h1 c;exact o.kept S (gR o h.row Pi)
  have R:=(UU.1 h1).1;simp only[Uo,WJ]at R;obtain rfl:j=ns.length:=Ph;rw[WH (UY _)]at h1;rw[WH SP,h.len]at c;simp at h1 c;subst h1 c;exact WO _ _ _ _
 apart:=fun i j d g h1 c zs=>by
  have one:∀(i:Nat)(k:UV),(kvs++[zz])[i]?=Ts k->kvs[i]?=Ts k\/(i=kvs.length/\k=zz):=fun i k hi=>by
   by_cases R:i<kvs.length
   .rw[X9 R]at hi;exact .inl hi
   have:=(UU.1 hi).1;simp only[Uo,WJ]at this;obtain rfl:i=kvs.length:=Ph;rw[WH (UY _)]at hi;simp at hi;exact .inr ⟨rfl,hi.symm⟩
  rcases one i d h1 with h1|⟨rfl,rfl⟩
  .rcases one j g c with c|⟨rfl,rfl⟩
   .exact h.apart i j d g h1 c zs
   cases d.ownBlock<;>simp[Vt]
  exact .inl rfl
 sizes:=fun x m=>by
  rcases WD.1 m with m|m
  .exact h.sizes x m
  rw[VP]at m;subst m;exact p
def aP.set{g cap j:Nat}{x:Dv}(h:aP w base v ns kvs)(A:v=Tm (Ts ⟨g,0,U8⟩) ns.length cap)(l:ns[j]?=Ts x)(wide i):
  aP (w.setCell ⟨g,j*4+(if wide then 2 else 1),U8⟩ (Ti Tl i)) base v (nG ns j wide i) kvs:=by
 obtain⟨G,o,C⟩:=h.kv l;subst A;have p:=h.row.stored (j*4+(if wide then 2 else 1)) (Ti Tl i);have E:nG ns j wide i=ns.set j (if wide then{x with below:=i}else{x with here':=i}):=qj l;have P:Fr (fun b=>b=g) w (w.setCell ⟨g,j*4+(if wide then 2 else 1),U8⟩ (Ti Tl i)):=Uz _ _ _ rfl;rw[E];refine⟨by simp[h.len],?_,fun q y B h1 F=>?_,h.apart,fun y U=>?_⟩
 .rw[List.length_set,rk _ _ _ _ _ o];rw[<-uY (f:=EF) (m:=4) (c:=if wide then 2 else 1) (u:=Ti Tl i) (fun _=>rfl) C (by split<;>decide) (by cases wide<;>rfl)];exact p.1
 .have r:∃z,ns[q]?=Ts z/\z.kids=y.kids:=by
   by_cases e:q=j
   .subst e;rw[Vq (UU.1 l).1]at h1;simp only[Vw]at h1;exact⟨x,l,by rw[<-h1];split<;>rfl⟩
   rw[Vl (fun D=>e D.symm)]at h1;exact⟨y,h1,rfl⟩
  obtain⟨z,s,t⟩:=r;have d:=h.kids q z B s F;rw[t]at d;refine eM d P fun b hb e=>?_;rcases gR d h.row Pi with am|am
  .rw[am]at hb;cases hb
  rw[hb,e]at am;exact am rfl
 rcases List.mem_or_eq_of_mem_set U with U|rfl
 .exact h.sizes y U
 have:=h.sizes x (Uv l);split<;>exact this
def aP.kid{A:UN}{C d:UV}{g cap j:Nat}{x:Dv}{k}(h:aP w base v ns kvs)(Q:v=Tm (Ts ⟨g,0,U8⟩) ns.length cap)(F:ns[j]?=Ts x)(o:kvs[j]?=Ts C)(r:A.ownsRow base 3 1 d (x.kids.length+1) (x.kids.map yg++[yg k]))(S:w.grownBy A C.ownBlock)(M:d.ownBlock=C.ownBlock\/d.ownBlock=Ts w.heap.size):
  aP (A.setCell ⟨g,j*4+3,U8⟩ d) base v (ns.modify j fun x=>{x with kids:=x.kids++[k]}) (kvs.set j d):=by
 subst Q;have R:(ns.zip kvs)[j]?=Ts (x,C):=List.getElem?_zip_eq_some.2 ⟨F,o⟩;have K:=h.kids j x C F o;have p:=h.row.kept S (gR h.row K Pi);have H:=p.stored (j*4+3) d;have P:Fr (fun b=>b=g) A (A.setCell ⟨g,j*4+3,U8⟩ d):=Uz _ _ _ rfl;have off:∀{n:Nat}{u:UV}{J:List UV},A.ownsRow base 3 1 u n J->(A.setCell ⟨g,j*4+3,U8⟩ d).ownsRow base 3 1 u n J:=fun{n u J}X=>eM X P fun b hb e=>by
  rcases gR X p Pi with am|am
  .rw[am]at hb;cases hb
  rw[hb,e]at am;exact am rfl
 have E:(ns.modify j fun x=>{x with kids:=x.kids++[k]})=ns.set j {x with kids:=x.kids++[k]}:=qj F;rw[E];have B:=(UU.1 o).1;have L:=(UU.1 F).1;have s:∀(i:Nat)(t:UV),kvs[i]?=Ts t->i≠j->t.ownBlock=U8\/t.ownBlock≠d.ownBlock:=fun i t hi zs=>by
  rcases M with e|e
  .rw[e];exact h.apart i j t C hi o zs
  rw[e];cases hb:t.ownBlock with
  |none=>exact .inl rfl
  |some b=>
   right;obtain⟨y,U⟩:=h.get hi;have:=(h.kids i y t U hi).lt b hb;exact Zb8
 refine⟨by simp[h.len],?_,fun q y O h1 l=>?_,fun i G t D h1 l zs=>?_,fun y U=>?_⟩
 .rw[List.length_set,Ie,<-uY (f:=EF) (m:=4) (c:=3) (u:=d) (fun _=>rfl) R Pi rfl];exact H.1
 .by_cases e:q=j
  .subst e;rw[Vq L]at h1;rw[Vq B]at l;simp only[Vw]at h1 l;subst h1 l;rw[Uo,WK];exact off r
  rw[Vl (fun z=>e z.symm)]at h1 l;have N:=h.kids q y O h1 l;exact off (N.kept S (h.apart q j O C l o e))
 .by_cases e:i=j
  .subst e;rw[Vq B]at h1;rw[Vl zs]at l;simp only[Vw]at h1;subst h1;rcases s G D l (fun z=>zs z.symm)with am|am
   .rw[am];cases d.ownBlock<;>simp
   exact .inr (fun I=>am I.symm)
  rw[Vl (fun z=>e z.symm)]at h1;by_cases z:G=j
  .subst z;rw[Vq B]at l;simp only[Vw]at l;subst l;exact s i t h1 zs
  rw[Vl (fun I=>z I.symm)]at l;exact h.apart i G t D h1 l zs
 rcases List.mem_or_eq_of_mem_set U with U|rfl
 .exact h.sizes y U
 exact h.sizes x (Uv F)
end
section
open Go.Maps
def ajY{ns ps}(h:ew ns ps)(ls):∃b,ew (oN ns ls).1 b/\b[(oN ns ls).2]?=Ts ls:=by
 obtain⟨d,h1,c,_,_⟩:=ew.down ls h h.root;exact⟨_,h1,by rw[Vd]at c;exact c⟩
def aj9(st lab):(eG st lab).1.length<=st.1.length+1:=by
 unfold eG;split
 .omega
 split
 .simp only;omega
 simp only[fO];omega
def ajX:∀(ls:List ByteArray)(st:List Dv×Nat),(ls.foldl eG st).1.length<=st.1.length+ls.length
 |[],st=>Pm
 |lab::ls,st=>by
  have h1:=ajX ls (eG st lab);have c:=aj9 st lab;rw[List.foldl_cons,Up];omega
def ew.kids_le{ns ps}(h:ew ns ps){x:Dv}(m:ns[j]?=Ts x):x.kids.length<=ns.length:=by
 have h1:=h.perm.length_eq;have c:∀(l:List Dv)(j:Nat),l[j]?=Ts x->x.kids.length<=(l.flatMap (·.kids)).length:=fun l=>by
  induction l with
  |nil=>intro j h;simp at h
  |cons y l b=>
   intro j h;rw[Vh,Uo];cases j with
   |zero=>simp at h;subst h;omega
   |succ j=>have:=b j QJ;omega
 have A:=c ns j m;simp only[VR,List.length_range]at h1;omega
def aj2(h:cX p.data.toList=true):gX (Mp p)=true:=by
 unfold Mp;rcases cO h with hn|z
 .rw[dT hn];exact hn
 rw[if_pos z,<-oZ z];exact(sZ z).1
def aj6(h:cX p.data.toList=true):(ed p).length<=8/\(ed p).length=(cut (Mp p)).length:=by
 have h1:=(gC.1 (aj2 h)).2.1;unfold ed jj;simp only[VR,List.length_reverse];exact⟨h1,trivial⟩
def Gz{ns}{x:Dv}{q:Int}(m:ns[n]?=Ts x)(h:eT ns lab x.kids=Ts q):eG (ns,n) lab=(ns,q.toNat):=by
 unfold eG;simp only[m,h]
def FX{ns}{x:Dv}(m:ns[n]?=Ts x)(h:eT ns lab x.kids=U8):eG (ns,n) lab=(j5 ns n lab,ns.length):=by
 unfold eG;simp only[m,h]
def infoNode:(UB.info? 152).map (fun i=>(i.zero,i.size,i.bytes))=Ts (Ts (UT #[UH ⟨#[]⟩,Ti Tl 0,Ti Tl 0,zz]),4,56):=Pg
def aeN:pD Nat:=fun w b o n=>w.cell? ⟨b,o,U8⟩=Ts (Ti Tl (n:Int))
def Ia{base}{l:List Nat}(hn:l.length=n)(h:w.ownsRow base e 1 v n (l.map sX)):Ke 1 aeN w v l:=by
 have am:l.flatMap (fun i=>[sX i])=l.map sX:=by
  clear h hn;induction l with
  |nil=>rfl
  |cons x l c=>rw[Vh,WI,c];rfl
 rw[<-am]at h;exact kZ (cells:=fun i=>[sX i]) (fun _=>rfl) (fun b o x _ J=>J 0 _ rfl) hn h
def wF(l:List b7)(a cap n w)(hn:l.length=n)(hnc:n<=cap)(hcm:cap<=VL)(hl:qz w a l)(hfew:n<=1000)(hpf:∀r∈l,r.pats.length<=1000):
  VB UB 129 #[.slice a n cap] w (ajB 2 Ho (gE l) w):=by
 obtain⟨i0,hi,hz0,hz1,hz2⟩:=WN infoPair;obtain⟨i1,gi,gz0,gz1,gz2⟩:=WN infoInt;refine P3 hn hl hpf fun HN HL HPF=>?_;unfold VL at hcm;clear hn hl hpf;have E:vp UB 9 UH (fun s:ByteArray=>s.size<=VL):=uL underlying9;have EP:=NN;have hmm:= @run_makeMap UB;go_enter func129,ntmps129;go_wp2_with fail;have HS0:=Tn (cN.start w);generalize(w.alloc (Obj.map #[] 0)).alloc (Obj.map #[] 0)=W0 at HS0⊢;clear hmm;go_loopw [17,5] (fun i ov wr=>∃(k:Nat)(mb:List (ByteArray×UV))(f:ByteArray->List Nat)(o:List (Nat×Nat)),k<=n/\i= .int .i64 k/\p9 l k [] f/\oA l k [] o/\o.Nodup/\(∀s,(f s).length<=k*1000)/\cN w wr mb f o o ov) (fun i _ _=>n-(VS i).toNat)
 case atStart=>exact⟨0,[],fun _=>[],[],VF _,rfl,p9.start l,oA.start l,Yk,fun _=>VF _,HS0.out⟩
 obtain⟨k,mb,f,o,hk,rfl,cf,ho,G,T,F⟩:=hrel;refine PC cf ho G T F fun HF HO D M d=>?_;clear cf ho G T F;by_cases R:k<n
 .obtain⟨r,u⟩:=ay HN.out R;obtain⟨b,off,rfl,d0,d1,⟨pa,pc,d2,l1,l2,hps⟩,d3,d4,d5,d6,_,_⟩:=(HL.out.ext d.out.ext) k r u;have Z:=Tn u
  have HPS:Hid (js w pa r.pats):=Tn (by
   obtain⟨b',off',hab,_,_,⟨pa',pc',g2,_,_,hps'⟩,_⟩:=HL.out k r u;cases hab;have:=ae g2 d.out.ext;rw[this]at d2;cases d2
   exact hps')
  have hnp1:=HPF.out r (Uv u);refine P1 r.pats.length fun np hnp=>?_;have NP:=Tn hnp;rw[hnp]at d2 l1 hnp1;unfold VL at l2;have hkc:k<=cap:=Ph;clear u hps hnp;go_wp2_with fail;have HS1:=Tn (d.out.ext' (af P0 (Tq #[.string r.name,.bool r.allow,.slice pa np pc,.int .u64 r.keyMin,.int .i64 r.lifeMax,.int .i64 r.most,.int .i64 r.window] 75)));generalize(wr.alloc (Tq #[.string r.name,.bool r.allow,.slice pa np pc,.int .u64 r.keyMin,.int .i64 r.lifeMax,.int .i64 r.most,.int .i64 r.window] 75))=t at HS1⊢;clear d0 d1 d2 d3 d4 d5 d6;go_loopw [25,5] (fun i ov wr=>∃(j:Nat)(mb:List (ByteArray×UV))(f:ByteArray->List Nat)(o:List (Nat×Nat)),j<=np/\i= .int .i64 j/\p9 l k (r.pats.take j) f/\oA l k (r.pats.take j) o/\o.Nodup/\(∀s,(f s).length<=k*1000+j)/\cN w wr mb f o o ov) (fun i _ _=>np-(VS i).toNat)
  case atStart=>exact⟨0,mb,f,o,VF _,rfl,HF.out,HO.out,D.out,M.out,HS1.out⟩
  obtain⟨j,mb,f,o,Q,rfl,cf,ho,G,T,F⟩:=hrel;refine PC cf ho G T F fun HF HO D M d=>?_;clear cf ho G T F;by_cases hlj:j<np
  .obtain⟨p,hp⟩:=ay NP.out hlj;obtain⟨b',off',rfl,e0,hpz⟩:=(HPS.out.ext d.out.ext) j p hp;rw[XT]at e0;refine P4 (aW hp) hpz fun HP HPZ=>?_;have hjc:j<=pc:=Ph;refine P1 ((f p).length) fun nx hnx=>?_;have NX:=Tn hnx;have hnxl:nx<=1001000:=by have:=M.out p;omega
   obtain⟨va,vc,ab,hvl,hvm,_⟩:=Ia rfl (d.out.rows.at p);rw[hnx]at ab hvl;have J:=Tn ab;have H:=(d.out.by'.run_lookup (mt:=287) E underlying287 (z:= .slice U8 0 0) Pg (k:=p) HPZ.out).trans (congrArg (fun v=>Result.ok v _) ab);unfold VL at hvm;clear hp hpz hnx ab;go_wp2_with fail;clear H;go_loopw [33,5] (fun i ov wr=>∃(m:Nat)(o:List (Nat×Nat)),m<=nx/\i= .int .i64 m/\vF l k (r.pats.take j) (f p) m o/\o.Nodup/\cN w wr mb f o o ov) (fun i _ _=>nx-(VS i).toNat)
   case atStart=>exact⟨0,o,VF _,rfl,HO.out.open _,D.out,d.out⟩
   obtain⟨m,o,K,rfl,hmi,G,F⟩:=hrel;refine P3 hmi G F fun Y D d=>?_;clear hmi G F;by_cases hlm:m<nx
   .obtain⟨x,hx⟩:=ay NX.out hlm;obtain⟨va',vc',ac,_,_,hvr⟩:=Ia rfl (d.out.rows.at p);rw[J.out]at ac;cases ac;obtain⟨b2,off2,rfl,c0⟩:=hvr m x hx;unfold aeN at c0;rw[XT]at c0;have hxk:x<=k:=by
     rcases(HF.out p x).1 (Uv hx)with⟨h,_⟩|⟨h,_⟩<;>omega
    have HX:=Tn hx;have hmc:m<=vc:=Ph;clear hx hvr;go_upto_region 14 with(fail);refine P1 (wr.alloc (Tq #[.int .i64 (x:Int),.int .i64 (k:Int)] 289)) fun O U=>?_;have f0:O.cell? ⟨wr.heap.size,0,U8⟩=Ts (.int .i64 (x:Int)):=by rw[<-U];simp[go_sem]
    have f1:O.cell? ⟨wr.heap.size,1,U8⟩=Ts (.int .i64 (k:Int)):=by rw[<-U];simp[go_sem]
    have V:aq wr O:=by rw[<-U];exact af P0 _
    have HS3:=Tn (d.out.ext' V);have hB2:w.heap.size+1<wr.heap.size:=by obtain⟨mm,h1,_⟩:=d.out.met;exact h1.lt
    rw[U];clear U V c0;obtain⟨mm,hpm,I⟩:=HS3.out.met;have HPO:=Tn (show Bl (x,k)from⟨by show x<_;omega,by show k<_;omega⟩);have H:=(hpm.run_lookup (mt:=288) EP underlying288 (z:= .bool false) Pg (k:=(x,k)) HPO.out).trans (congrArg (fun v=>Result.ok v _) (I (x,k)));refine P4 hpm I fun HPM HSEEN=>?_;unfold wm at H;simp only at H;clear hpm I;refine aG (fun w'=>w'=O) rfl ?_;repeat
     (first|refine az rfl rfl rfl rfl ?_|refine aF rfl rfl rfl rfl ?_|refine aw rfl ?_|refine aj rfl rfl rfl rfl rfl ?_|((first|refine av (v:=?_) rfl rfl (fun hb w' hS=>?_) ?_|refine ar (v:=?_) rfl rfl rfl (fun hb1 hb w' hS=>?_) ?_|refine ax (v:=?_) rfl (fun w' hS=>?_) ?_);rotate_left;(focus(subst hS;unfold ak;go_simp;first|exact aD rfl))))
     simp only[Ua,P7]
    refine aA fun w' hE'=>?_;subst hE';cases N:(((x:Int) !=(k:Int))&& !(decide ((x,k)∈o)))
    .have HQ:=Tn (show x=k\/(x,k)∈o by
      simp only[Bool.and_eq_false_iff,bne_eq_false_iff_eq,YD,decide_eq_true_eq]at N;rcases N with h|h
      .exact .inl Ph
      exact .inr h)
     clear N H;go_wp2_with fail;go_roundw
     case rel=>exact⟨m+1,o,Ph,Pt,Y.out.skip HX.out HQ.out,D.out,HS3.out⟩
     case measure=>simp[VS];omega
    have HQ:=Tn (show x≠k/\(x,k)∉o by
     simp only[V7,bne_iff_ne,ne_eq,Wh,decide_eq_false_iff_not]at N
     exact⟨fun e=>N.1 Ph,N.2⟩)
    clear N H;have hol:o.length<=1002001:=by
     refine VG (Eg (n:=1001) D.out fun q N=>?_) Pi;rcases(Y.out q).1 N with⟨h1,⟨c,_⟩|⟨c,_⟩⟩|⟨h1,c,A⟩
     .exact⟨Ph,Ph⟩
     .exact⟨Ph,Ph⟩
     have:q.1∈f p:=List.mem_of_mem_take A;rcases(HF.out p q.1).1 this with⟨h,_⟩|⟨h,_⟩<;>exact⟨Ph,Ph⟩
    go_wp2_with (first
     |(
       at_mapUpdate;refine cK rfl _ _ _ 288 rfl EP underlying288 rfl HPM.out (x,k) _ rfl rfl HPO.out ?_
       intro w4 hm4 X hz4;have g0:=(X.cell (p:=⟨wr.heap.size,0,U8⟩) (aR f0) (show¬wr.heap.size=w.heap.size+1 from Ph)).trans f0;have g1:=(X.cell (p:=⟨wr.heap.size,1,U8⟩) (aR f1) (show¬wr.heap.size=w.heap.size+1 from Ph)).trans f1;have L:=Tn (HS3.out.meet HSEEN.out hm4 X (by obtain⟨es,clock,hb,_⟩:=HPM.out.heap;exact⟨es,clock,hb⟩));have hsz4:=L.out.ext.size
       clear hm4 X hz4 f0 f1)
     |(
       at_builtin;refine wpList_append_own _ rfl _ _ 224 rfl w.heap.size 289 i0 (.agg #[.int .i64 0,.int .i64 0]) 2 16 underlying224 hi hz0 hz1 hz2 rfl Pi u5 _ _ rfl (L.out.out.alloc _) ⟨w4.heap.size,0,U8⟩ 1 1 [.int .i64 x,.int .i64 k] rfl rfl (pI _ _ _ _) Pu Pr Ph Pp ?_
       intro v' w5 C B _;have HS5:=Tn ((L.out.ext' (af P0 _)).push (q:=(x,k)) C B)
       clear C B))
    go_roundw
    case rel=>exact⟨m+1,o++[(x,k)],Ph,Pt,Y.out.add HX.out HQ.out.1,List.nodup_append.2 ⟨D.out,Pm,fun a ha b hb e=>by rw[VP]at hb;subst hb;subst e;exact HQ.out.2 ha⟩,HS5.out⟩
    case measure=>simp[VS];omega
   obtain rfl:m=nx:=by omega
   refine P4 (show oA l k (r.pats.take (j+1)) o by rw[HP.out];exact vF.close HF.out (by rw[NX.out];exact Y.out)) (show p9 l k (r.pats.take (j+1)) (fun s=>if p=s then f p++[k]else f s) by rw[HP.out];exact HF.out.next p) fun HC HF'=>?_
   have HFL':=Tn (show∀s,(if p=s then f p++[k]else f s).length<=k*1000+(j+1)from fun s=>by
    have h1:=M.out p;have c:=M.out s;split
    .rw[Uo];simp only[WJ];omega
    omega)
   have H:=(d.out.by'.run_lookup (mt:=287) E underlying287 (z:= .slice U8 0 0) Pg (k:=p) HPZ.out).trans (congrArg (fun v=>Result.ok v _) J.out)
   have HROW:Hid (wr.ownsRow w.heap.size 3 1 (.slice va m vc) m ((f p).map sX)):=Tn (by
    have:=d.out.rows.at p;rw[NX.out]at this;have e:=J.out;unfold NF at this;unfold NF at e;rw[e]at this
    exact this)
   have hsz:=d.out.ext.size
   go_wp2_with (first
    |(
      at_builtin;refine wpList_append_own_at _ rfl _ _ 84 rfl w.heap.size 3 i1 (.int .i64 0) 1 8 underlying84 gi gz0 gz1 gz2 rfl Pi _ _ _ rfl (HROW.out.alloc _) ⟨wr.heap.size,0,U8⟩ 1 1 [.int .i64 k] rfl rfl (d9 _ _ _) Pu Pr Ph Pp ?_
      intro v' w5 C B _ hat5;refine P5 (d.out.ext' (af P0 (Tq #[.int .i64 (k:Int)] 3))) C B hat5 fun L HO5 HG5 HA5=>?_;have HM5:=Tn (L.out.by_grown (s:=p) (by rw[J.out];exact B))
      clear C B hat5)
    |(
      at_mapUpdate;refine cK rfl _ _ _ 287 rfl E underlying287 rfl HM5.out p _ rfl rfl HPZ.out ?_
      intro w6 hm6 hf6 hz6;refine P4 hm6 hf6 fun HM6 HF6=>?_
      clear hm6 hf6 hz6))
   go_roundw
   case rel=>
    refine⟨j+1,_,_,o,Ph,Pt,HF'.out,HC.out,D.out,HFL'.out,L.out.book (by rw[NX.out];exact HO5.out) (by rw[J.out];exact HG5.out) (by rw[J.out];exact HA5.out) HM6.out HF6.out⟩
   case measure=>simp[VS];omega
  obtain rfl:j=np:=by omega
  refine P4 (show oA l (k+1) [] o from oA.close Z.out (by have:=HO.out;rwa[VD SJ]at this)) (show p9 l (k+1) [] f from p9.close Z.out (by have:=HF.out;rwa[VD SJ]at this)) fun HC HC'=>?_;go_wp2_with fail;go_roundw
  case rel=>exact⟨k+1,mb,f,o,Ph,Pt,HC'.out,HC.out,D.out,fun s=>by have:=M.out s;omega,d.out⟩
  case measure=>simp[VS];omega
 obtain rfl:k=n:=by omega
 have HOA:=Tn (oA.all (by rw[HN.out];exact HO.out));have hol:o.length<=1000000:=by
  refine VG (Eg (n:=1000) D.out fun q N=>?_) Pi;obtain⟨h1,c⟩:=(HOA.out q).1 N;obtain⟨_,y,_,_,g2,_⟩:=gL.1 c;have:=(UU.1 g2).1;have:=HN.out;exact⟨Ph,Ph⟩
 go_wp2_with (go_at_call 193;refine(xO o _ _ _ _ rfl Ph d.out.out).mono ?_;rintro e w6⟨rfl,o',W,P,hsl,hF6⟩;refine P5 W P hsl hF6 fun HP6 HSO HSL HF6=>?_;clear W P hsl hF6)
 go_ret;have hnd':o'.Nodup:=HP6.out.nodup_iff.2 D.out;have heq:o'=gE l:=by
  refine uk ?_ fun q=>by rw[HP6.out.mem_iff];exact HOA.out q
  have h1:o'.Pairwise fun a b=>a≠b:=hnd';refine(HSO.out.and h1).imp fun{a b}⟨c,A⟩=>?_;rcases DB A with h|h
  .exact h
  exact absurd h c
 refine⟨_,rfl,by rw[<-heq];exact HSL.out,d.out.ext.trans (HF6.out.below d.out.ext.size fun g S=>bE d.out.out g S)⟩
def yf(l s):oF l s=-1\/∃i:Nat,i<l.length/\oF l s=i:=by
 rcases pS l s with⟨h,_⟩|⟨k,r,_,h,o,_⟩
 .exact .inl h
 exact .inr ⟨k,(UU.1 o).1,h⟩
def Eo{l}(h:gG l≠0):bL l=gG l:=by unfold bL;rw[if_neg h]
def DI{l}(h:gG l=0)(J:(gE l).length=0):bL l=0:=by unfold bL;rw[if_pos h,if_pos (VA J)]
def A0{l}(h:gG l=0)(J:(gE l).length≠0):bL l=160:=by
 unfold bL;rw[if_pos h,if_neg];intro e;rw[e]at J;exact J rfl
def vj(l:List b7)(a cap n w)(hn:l.length=n)(t:n<=cap)(j:cap<=VL)(p:qz w a l)(d:n<=1000)(o:∀r∈l,r.pats.length<=1000):
  VB UB 65 #[Tm a n cap] w (bM (Ti Tl (bL l)) w):=by
 refine P9 hn t j p d o fun g c b u z y=>P1 (gG l) fun x E=>have f:=Tn E;?_;by_cases L:x=0
 .have t0:(x !=0)=false:=by simpa using L
  have C:=Tn (f.trans L);by_cases J:(gE l).length=0
  .have Z:=Tn (DI C J);have A:=Tn J;exact TO
  have Z:=Tn (A0 C J);refine P1 ((gE l).length) fun m K=>have A:=Tn K;?_;have H:decide (0<m)=true:=by rw[K]at J;simp;omega
  exact TO
 have t0:(x !=0)=true:=by simpa using L
 have Z:=Tn ((Eo (l:=l) (by rw[f.out];exact L)).trans f);go_enter func65,ntmps65;go_wp2_with (go_at_call 128;refine P2 (qE l a cap n _ g c b u) fun B q=>?_;rw[f.out];have s:=Tn q)
 go_ret;exact⟨eu Z.symm,s⟩
def aeR(x:aj8×Int)(w:UN)(e:Xo)(b:UN):Prop:=∃a c,e=UO (UW #[agU x.1 a c,Ti Tl x.2])/\x.1.by'.length<=c/\c<=VL/\rx b a x.1.by'/\(∀p,a=Ts p->w.heap.size<=p.block)/\aq w b
def wW{n:Int}(g:aq w b):aeR (CP,n) w (UO (UW #[UT #[U1 false,Ti Tl 0,zz],Ti Tl n])) b:=
 ⟨U8,0,rfl,UY _,VF _,ZO _ _ _ _,fun _ h=>Rw,g⟩
def F4{l}(z:gX s.data.toList=true):zY l s=-1\/∃i:Nat,i<l.length/\zY l s=i:=by
 rw[adT z];exact yf l s
def aaZ{v}(h:lU v=true):1<=v.names.length/\v.names.length<=8:=by
 unfold lU at h;simp only[V7,decide_eq_true_eq]at h;exact⟨h.2.1.2,h.2.2⟩
def fE(w:UN)(b:Nat)(c d:UV):Prop:=w.heap[b]?=Ts (Tq #[c,d] 27 (0,0))
def fE.cells{b c d}(h:fE w b c d):w.cell? ⟨b,0,U8⟩=Ts c/\w.cell? ⟨b,1,U8⟩=Ts d:=by
 unfold fE at h;simp[Wc,h]
def fE.frozen{b c d}(h:fE w b c d)(j:Nat):w.frozen? ⟨b,j,U8⟩=false:=VQ w b j _ _ h
def fE.lt{b c d}(h:fE w b c d):b<w.heap.size:=(UE.1 h).1
def fE.set0{b d c}(h:fE w b d c)(x):fE (w.setCell ⟨b,0,U8⟩ x) b x c:=(VE w b 0 _ _ _ h).trans Pm
def fE.set1{b c d}(h:fE w b c d)(x):fE (w.setCell ⟨b,1,U8⟩ x) b c x:=(VE w b 1 _ _ _ h).trans Pm
def fE.ext{b c f}(h:fE w b c f)(g:aq w d):fE d b c f:=(g.block b h.lt).trans h
def fE.new(w:UN)(b c):fE (w.alloc (Tq #[b,c] 27)) w.heap.size b c:=UZ w _
def EJ(rs:List b7)(ns:List Dv)(n:Int)(w:UN)(e:Xo)(b:UN):Prop:=∃c d,e=UO (UW #[UT #[c,d],Ti Tl n])/\Ke 7 CO b c rs/\Ke 4 Jd b d ns/\aq w b
def BH{n:Int}(g:aq w b):EJ [] [] n w (UO (UW #[UT #[zz,zz],Ti Tl n])) b:=
 ⟨_,_,rfl,⟨U8,0,rfl,UY _,VF _,ZO _ _ _ _⟩,⟨U8,0,rfl,UY _,VF _,ZO _ _ _ _⟩,g⟩
def akA{ns}(h:∃ps,ew ns ps)(p i):∃ps,ew (sK ns p i) ps:=by
 obtain⟨ps,h⟩:=h;obtain⟨b,h1,_⟩:=ajY h (ed p);exact⟨b,h1.set _ _ _⟩
def akC{ns}(x:cX p.data.toList=true)(i):(sK ns p i).length<=ns.length+8:=by
 unfold sK;rw[nO];have h1:=ajX (ed p) (ns,0);have c:=(aj6 x).1;unfold oN;simp only at h1;omega
def aj5{ns i}(h:ps[j]?=Ts p):gk ns (ps.take (j+1)) i=sK (gk ns (ps.take j) i) p i:=by
 unfold gk;exact jz h _ _
def aj7{l}{r:b7}(h:l[k]?=Ts r):ce l (k+1)=gk (ce l k) r.pats k:=by rw[ce,h]
def tp.few{l}(h:tp l):l.length<=32/\∀r∈l,r.pats.length<=8:=by
 refine⟨(sS h.ok).2,fun r u=>?_⟩;have:=((mW (sS h.ok).1).2 r u).1;unfold lR at this;simp only[V7,decide_eq_true_eq]at this;exact this.1.1.2.2
def Ku(w:UN)(base:Nat)(hb:base<=w.heap.size):aP (w.alloc (Tq #[UH ⟨#[]⟩,Ti Tl (-1),Ti Tl (-1),zz] 152)) base (Tm (Ts ⟨w.heap.size,0,U8⟩) 1 1) [gN ⟨#[]⟩] [zz] where
 len:=rfl
 row:=World.ownsRow_lit w #[UH ⟨#[]⟩,Ti Tl (-1),Ti Tl (-1),zz] 1 hb Pi rfl
 kids:=fun j x f h1 c=>by
  cases j with
  |zero=>simp at h1 c;subst h1 c;exact WO _ _ _ _
  |succ j=>simp at h1
 apart:=fun i j d b h1 c zs=>by
  cases i with
  |zero=>simp at h1;subst h1;exact .inl rfl
  |succ i=>simp at h1
 sizes:=fun x m=>by rw[VP]at m;subst m;exact VF _
def FR(x y p r t s w)(m:rx w p x)(U:rx w r y)(g:x.length<=VL)(f:y.length<=VL):
  VB UB 229 #[Tm p x.length t,Tm r y.length s] w (bM (U1 (x==y)) w):=by
 unfold VL at g f;by_cases c:x.length=y.length
 .by_cases L:x.length=0
  .have ex:x=[]:=VA L;have A:y=[]:=VA Ph;subst ex A;refine(slices_Equal_int_empty p r t 0 s w Ph).mono ?_;rintro e z⟨rfl,rfl⟩;exact⟨rfl,P0⟩
  obtain⟨i,hi⟩:=ay (l:=x) rfl (k:=0) Ph;obtain⟨j,Q⟩:=ay (l:=y) rfl (k:=0) Ph;obtain⟨b1,o1,rfl,_⟩:=m 0 i hi;obtain⟨b2,o2,rfl,_⟩:=U 0 j Q;have d:∀{b o:Nat}{l:List Int},rx w (Ts ⟨b,o,U8⟩) l->∀j,j<l.length->w.cell? ⟨b,o+j,U8⟩=Ts (Ti Tl (l.getD j 0)):=fun{b o l}h j Q=>by
   obtain⟨u,X⟩:=ay (l:=l) rfl Q;obtain⟨B,o',hb,J⟩:=h j u X;cases hb;unfold wC at J;rw[XT]at J;rw[J,Uj,X];rfl
  refine(slices_Equal_int b1 o1 x.length t b2 o2 y.length s x y w (UY _) (UY _) g f (d m) (d U)).mono ?_;rintro e z⟨rfl,q,rfl⟩;rw[VD (UY _),VD (UY _)];exact⟨rfl,(Fr.drewN (fun _=>False) w q).ext (fun _ _ h=>h)⟩
 refine(slices_Equal_int_lens p r x.length t y.length s w c).mono ?_;rintro e z⟨rfl,rfl⟩;have:(x==y)=false:=by
  rw[Xm];intro h;rw[beq_iff_eq]at h;exact c (by rw[h])
 exact⟨bV this.symm,P0⟩
def af4(x:Dv)(a:Option VW)(c:Nat):UV:=UT #[UH x.label,Ti Tl x.here',Ti Tl x.below,Tm a x.kids.length c]
def aaO(x y:Dv):(x.label.toList==y.label.toList&&x.here'==y.here'&&x.below==y.below&&x.kids==y.kids)=decide (x=y):=by
 rw[YH];simp only[V7,beq_iff_eq,decide_eq_true_eq,Nx];constructor
 .rintro⟨⟨⟨h1,c⟩,A⟩,b⟩;exact⟨ez (by rwa[Yb,Yb]at h1),c,A,b⟩
 rintro⟨h1,c,A,b⟩;exact⟨⟨⟨by rw[h1],c⟩,A⟩,b⟩
def DA(x y:Dv)(g j p o w)(m:rx w g x.kids)(U:rx w j y.kids)(q:x.kids.length<=VL)(s:y.kids.length<=VL):
  VB UB 188 #[af4 x g p,af4 y j o] w (bM (U1 (decide (x=y))) w):=by
 refine P5 m U q s fun C E u z=>?_;unfold af4;go_enter func188,ntmps188;go_upto_region 1 with fail;refine P1 ((w.alloc (Tq #[UH x.label,Ti Tl x.here',Ti Tl x.below,Tm g x.kids.length p] 152)).alloc (Tq #[UH y.label,Ti Tl y.here',Ti Tl y.below,Tm j y.kids.length o] 152)) fun f d=>have r:aq w f:=Pz;?_;have h1:f.heap[w.heap.size]?=Ts (Tq #[UH x.label,Ti Tl x.here',Ti Tl x.below,Tm g x.kids.length p] 152 (0,0)):=by
  rw[<-d];exact((af P0 _).block _ Pm).trans (UZ w _)
 have c:f.heap[w.heap.size+1]?=Ts (Tq #[UH y.label,Ti Tl y.here',Ti Tl y.below,Tm j y.kids.length o] 152 (0,0)):=by
  rw[<-d];have:=UZ (w.alloc (Tq #[UH x.label,Ti Tl x.here',Ti Tl x.below,Tm g x.kids.length p] 152)) (Tq #[UH y.label,Ti Tl y.here',Ti Tl y.below,Tm j y.kids.length o] 152);rwa[Ud]at this
 have a0:f.cell? ⟨w.heap.size,0,U8⟩=Ts (UH x.label):=T5;have a1:f.cell? ⟨w.heap.size,1,U8⟩=Ts (Ti Tl x.here'):=T5;have a2:f.cell? ⟨w.heap.size,2,U8⟩=Ts (Ti Tl x.below):=T5;have a3:f.cell? ⟨w.heap.size,3,U8⟩=Ts (Tm g x.kids.length p):=T5;have b0:f.cell? ⟨w.heap.size+1,0,U8⟩=Ts (UH y.label):=T9;have b1:f.cell? ⟨w.heap.size+1,1,U8⟩=Ts (Ti Tl y.here'):=T9;have b2:f.cell? ⟨w.heap.size+1,2,U8⟩=Ts (Ti Tl y.below):=T9;have A:f.cell? ⟨w.heap.size+1,3,U8⟩=Ts (Tm j y.kids.length o):=T9;have B:=Tn r;rw[d];refine aG (fun b=>aq f b) P0 ?_;repeat
  (first|refine az rfl rfl rfl rfl ?_|refine aF rfl rfl rfl rfl ?_|refine aw rfl ?_|refine aj rfl rfl rfl rfl rfl ?_|((first|refine av (v:=?_) rfl rfl (fun hb b l=>?_) ?_|refine ar (v:=?_) rfl rfl rfl (fun F hb b l=>?_) ?_|refine ax (v:=?_) rfl (fun b l=>?_) ?_);rotate_left;(focus(have p0:=ae a0 l;have p1:=ae a1 l;have p2:=ae a2 l;have G:=ae a3 l;have q0:=ae b0 l;have q1:=ae b1 l;have q2:=ae b2 l;have H:=ae A l;unfold ak;go_simp;first|exact aD l|(refine(FR x.kids y.kids g j p o _ ((C.ext B).ext l) ((E.ext B).ext l) u z).mono ?_;rintro e D⟨rfl,c⟩;exact aH (aa l c))))))
  simp only[Ua,P7]
 refine aA fun b t=>?_;go_wp2;go_ret;refine⟨bV ?_,aa B t⟩;exact aaO x y
theorem EA(l m:List Dv)(a b c1 n1 c2 n2 w)(h1:l.length=n1)(c:m.length=n2)(k1:n1<=c1)(k2:n2<=c2)(g1:c1<=VL)(W:c2<=VL)(p:ut w a l)(K:ut w b m):
  VB UB 187 #[Tm a n1 c1,Tm b n2 c2,.func (.func 188) #[] #[]] w (bM (U1 (decide (l=m))) w):=by
 unfold VL at g1;refine P5 h1 c p K fun E C HL HC=>?_;clear h1 c p K;have eg:=Vv func188 Pg rfl;by_cases zs:n1=n2
 .subst zs;have t:((n1:Int) !=n1)=false:=Pm;go_enter func187,ntmps187;go_wp2_with fail;go_loopw [17] (fun i wr=>∃k:Nat,k<=n1/\i=Ti Tl k/\l.take k=m.take k/\aq w wr) (fun i _=>n1-(VS i).toNat)
  case atStart=>exact⟨0,VF _,rfl,rfl,P0⟩
  obtain⟨k,o,rfl,G,d⟩:=hrel;have g:=Tn G;clear G;by_cases R:k<n1
  .obtain⟨x,D⟩:=ay E R;obtain⟨y,U⟩:=ay C R;obtain⟨b,off,rfl,X,d1,d2,⟨pa,pc,d3,l1,l2,A⟩,_⟩:=(HL.ext d) k x D;obtain⟨L,O,rfl,Q,am,e2,⟨S,F,e3,g1,g2,z⟩,_⟩:=(HC.ext d) k y U;refine PG D U d A z (show x.kids.length<=VL from Ph) (show y.kids.length<=VL from Ph) fun J M f u j I T=>have P:k<=c1:=Ph;have H:k<=c2:=Ph;have ab:b<wr.heap.size:=aR X;have Z:L<wr.heap.size:=aR Q;have Y:L≠wr.heap.size:=Ph;have z0:=ae Q (af (Below.refl _ wr) (Tq #[UH x.label,Ti Tl x.here',Ti Tl x.below,Tm pa x.kids.length pc] 152));have z1:=ae am (af (Below.refl _ wr) (Tq #[UH x.label,Ti Tl x.here',Ti Tl x.below,Tm pa x.kids.length pc] 152));have z2:=ae e2 (af (Below.refl _ wr) (Tq #[UH x.label,Ti Tl x.here',Ti Tl x.below,Tm pa x.kids.length pc] 152));have z3:=ae e3 (af (Below.refl _ wr) (Tq #[UH x.label,Ti Tl x.here',Ti Tl x.below,Tm pa x.kids.length pc] 152));?_;clear D U d A z l1 l2 g1;by_cases N:x=y
   .have B:=Tn (show decide (x=y)=true by rw[decide_eq_true_iff];exact N);have r:=Tn (AY g J M N);clear N;go_wp2_with (go_at_call 188;refine P2 (DA x y pa S pc F _ (u.ext (af (af P0 _) _)) (j.ext (af (af P0 _) _)) I T) fun V q=>?_;rw[B.out];have s:=Tn (aa (af (af (Below.refl _ wr) _) _) q);clear q)
    go_roundw
    case rel=>exact⟨k+1,Ph,Pt,r,aa f s⟩
    case measure=>simp[VS];omega
   have B:=Tn (show decide (x=y)=false by rw[decide_eq_false_iff_not];exact N)
   have r:=Tn (show decide (l=m)=false by
    rw[decide_eq_false_iff_not];intro e;have h1:=J.out;have c:=M.out;rw[e,c]at h1;cases h1
    exact N rfl)
   clear N;go_wp2_with (go_at_call 188;refine P2 (DA x y pa S pc F _ (u.ext (af (af P0 _) _)) (j.ext (af (af P0 _) _)) I T) fun V q=>?_;rw[B.out];have s:=Tn (aa (af (af (Below.refl _ wr) _) _) q);clear q)
   go_ret;exact⟨bV r.symm,aa f s⟩
  obtain rfl:k=n1:=by omega
  have r:=Tn (show decide (l=m)=true by
   rw[decide_eq_true_iff];have:=g.out
   rwa[VD (by rw[E.out];omega),VD (by rw[C.out];omega)]at this)
  go_wp2_with fail;go_ret;exact⟨bV r.symm,d⟩
 have t:((n1:Int) !=n2)=true:=by simp;omega
 have HF:=Tn (show decide (l=m)=false by rw[decide_eq_false_iff_not];intro e;exact zs (by rw[<-E.out,<-C.out,e]));clear zs;go_enter func187,ntmps187;go_wp2_with fail;go_ret;exact⟨bV HF.symm,P0⟩
end
section
attribute [local go_sem] ZA fP cP dR
def agE{C:WR->Prop}{base d}(h:w.ownsRow base e m v n d)(j:¬C e)(H:jF S C w b)(z:∀g,v.ownBlock=Ts g->¬S g):b.ownsRow base e m v n d:=by
 refine j8 h fun g c=>?_;obtain⟨-,h|⟨g',cap,f,rfl,_,A,_⟩⟩:=h
 .obtain⟨rfl,-⟩:=h;simp[Vt]at c
 have:g'=g:=by simpa [Vt]using c
 subst this;exact H.block _ (UE.1 A).1 (OC A (fun _ _ _ e=>by cases e;exact j)) (z _ c)
def MI(p:Nat×au):Array UV:=#[Ti Tl p.1,rz p.2]
def abX(a n cap)(w:UN):
  VB UB 132 #[Tm a n cap] w fun e b=>
   e=UO (.func (.func 197) #[] #[UK (Ts ⟨w.heap.size,0,U8⟩)])/\b=w.alloc (Tq #[Tm a n cap] 73):=by
 go_enter func132,ntmps132;exact U7
def aaU(l:List au)(a n cap b base)(hn:l.length=n)(H:n<=VL)(C:WR->Prop)(x:¬C 73)(A:¬C 9):
  H4 UB 197 #[UK (Ts ⟨b,0,U8⟩)] MI (vZ l) C
   (fun W=>VX W b 73 (Tm a n cap)/\W.ownsRow base 9 1 (Tm a n cap) n (l.map rz)):=by
 unfold VL at H;intro y S J Jx W D G hS hJ E T L;refine callsIn_of_wp func197 rfl trivial ?_ rfl;simp only[ntmps197,WG,Up,VJ,VO,YI,WX,WY,XF,Wi,Vd,Vu];obtain⟨q,r⟩:=D;have c0:=q.cell;refine PG q r hn T L x A fun B0 EV B HY H0 N O=>?_;gi_wp2
 gi_loopw [3] (fun i wr=>∃m:Nat,m<=n/\ajP i m/\VX wr b 73 (Tm a n cap)/\wr.ownsRow base 9 1 (Tm a n cap) n (l.map rz)/\J (n-m) wr/\W.heap.size<=wr.heap.size) (fun i _=>(VS i+1).toNat)
 case atStart=>exact⟨n,UY _,Dr n,B0,EV,by rw[Nat.sub_self];exact H0.out,UY _⟩
 obtain⟨m,K,hi,s,f,Q,p⟩:=hrel;rcases hi with⟨rfl,rfl⟩|⟨j,rfl,rfl⟩
 .have HJ:=Tn Q;gi_wp2
  go_end0
  exact⟨⟨_,rfl⟩,.inl (by rw[iB,B.out];exact HJ.out)⟩
 obtain⟨e,F⟩:=ay B (show j<n from Ph);have hjn:j<n:=Ph;obtain⟨g,rfl,R,z⟩:∃g,a=Ts ⟨g,0,U8⟩/\n<=cap/\cap<=VL:=by
  rcases dD f with⟨-,h,-⟩|⟨g,X,h,_,_,_,h1,c⟩
  .omega
  cases h;exact⟨g,rfl,h1,c⟩
 have c0:wr.cell? ⟨g,j,U8⟩=Ts (rz e):=ir (g:=g) f (by simp[Vt]) (by rw[VU,F];rfl);unfold rz at c0;unfold VL at z;have d0:=s.cell;have V:=zp (k:=n-(j+1)) (by rw[B.out];omega) F;obtain⟨fn,tmps,assign,body,U,P⟩:=HY.out _ _ wr V Q p;refine P5 s f P p fun G0 I Z M=>?_;unfold MI rz at U;gi_wp2
 refine Z.out.mono ?_;rintro e' W'(⟨rfl,t,d⟩|⟨rfl,u,-⟩)
 .have s:=d.boxed G0 N (fun h=>h);have o:=agE I O d (fun _ _ h=>h);have Y:=d.size;refine P5 s o t Y fun K0 KE KJ KZ=>?_;gi_wp2
  go_roundw
  case rel=>exact⟨j,Ph,Dr j,K0,KE,by have:=KJ.out;rwa[show n-(j+1)+1=n-j from Ph]at this,VG M KZ⟩
  case measure=>simp[VS]
 gi_wp2
 exact VC (results_none (fn:=f197) rfl _ _ _) rfl ⟨⟨_,rfl⟩,.inr ⟨n-(j+1)+1,by rw[iB,B.out];omega,u⟩⟩
def C7(s)(w:UN):
  VB UB 67 #[UH s] w fun e b=>
   e=UO (.func (.func 131) #[] #[UK (Ts ⟨w.heap.size,0,U8⟩)])/\b=w.alloc (Tq #[UH s] 9):=by
 go_enter func67,ntmps67;exact U7
def ID(s:ByteArray):Array UV:=#[UH s]
def gS(s:ByteArray):List ByteArray:=(if gX s.data.toList then cut s.data.toList else[]).reverse.map fun x=>⟨x.toArray⟩
def N3{L:List au}{p:Nat×au}(h:(vZ L)[k]?=Ts p):(L.reverse.map fun x=>(⟨x.toArray⟩:ByteArray))[k]?=Ts ⟨p.2.toArray⟩:=by
 obtain⟨h1,c⟩:=JT h;rw[VU,List.getElem?_reverse Ph,show L.length-1-k=p.1 from Ph,c];rfl
def y7{base b}(h:w.ownsRow base e m v n b):∃a cap,v=Tm a n cap:=by
 rcases dD h with⟨rfl,rfl,-⟩|⟨g,cap,rfl,_⟩
 .exact⟨_,_,rfl⟩
 exact⟨_,_,rfl⟩
def ad0{base b}(h:w.ownsRow base e m v n b):n<=VL:=by
 rcases dD h with⟨-,rfl,-⟩|⟨g,cap,-,-,-,-,h1,c⟩
 .exact VF _
 exact VG h1 c
def ww(s:ByteArray)(b)(z:s.size<=9223372036854775807)(C:WR->Prop)(hC1:¬C 73)(hC2:¬C 9)(ac:¬C 226):
  H4 UB 131 #[UK (Ts ⟨b,0,U8⟩)] ID (gS s) C (fun W=>VX W b 9 (UH s)/\xB W):=by
 intro y S J Jx W hOk a1 l hJ al hY L;refine YV func131 rfl trivial ?_ rfl;simp only[ntmps131,WG,Up,VJ,VO,YI,WX,WY,XF,Wi,Vd,Vu];obtain⟨ao,a5⟩:=hOk;refine P1 (W.alloc (Tq #[.func (.yield y) #[] #[]] 226)) fun f d=>have M:aq W f:=Pq;?_;have an:VX f W.heap.size 226 (.func (.yield y) #[] #[]):=by rw[<-d];exact Wt _ _ _
 have c1:=(aC M ao).cell;refine P1 (if gX s.data.toList then cut s.data.toList else[]) fun D P=>have E:=Hl s f z (a5.ext M);?_;rw[P]at E;have a2:gS s=D.reverse.map fun x=>⟨x.toArray⟩:=by unfold gS;rw[P]
 rw[a2]at hY⊢;refine PH M an d E hJ al hY L ac l fun HE0 HY0 am ad HJ a4 HY H0 HC3 HS=>have HLY:=Tn a1;have hww:=am.out;?_;subst hww;gi_wp2_with (first|(gi_at_call 133;refine(Vn.2 ad).mono ?_;rintro e Q⟨v,rfl,hv,q⟩;rw[VR]at hv;obtain⟨a,cap,rfl⟩:=y7 hv;refine P4 hv q fun HV a0=>?_)|(gi_at_call 132;refine(Vn.2 (abX _ _ _ _)).mono ?_;rintro e w2⟨rfl,rfl⟩))
 have g:aq W (Q.alloc (Tq #[Tm a D.length cap] 73)):=af (aa HE0 a0) _;have ab:VX (Q.alloc (Tq #[Tm a D.length cap] 73)) Q.heap.size 73 (Tm a D.length cap):=Wt _ _ _;have T:VX (Q.alloc (Tq #[Tm a D.length cap] 73)) W.heap.size 226 (.func (.yield y) #[] #[]):=(aC a0 HY0).alloc _;have O:=ee HV (af (Below.refl _ Q) (Tq #[Tm a D.length cap] 73));refine P1 (Q.alloc (Tq #[Tm a D.length cap] 73)) fun I Y=>?_;rw[Y]at g ab T O⊢;have t:W.heap.size<I.heap.size:=T.lt;refine mL (C:=C) rfl (Vv func197 Pg rfl) (aaU D a D.length cap Q.heap.size _ rfl (ad0 HV) C hC1 hC2)
  (fun o1 o2=>⟨(ab.alloc _).alloc _,ee O (af (af P0 _) _)⟩) (fun x=>rfl)
  (fun b=>b=y\/S b) (fun b hb=>by rcases hb with rfl|hb;(have:=HLY.out;omega);(have:=HS.out b hb;omega))
  (fun k V=>J k V/\VX V W.heap.size 226 (.func (.yield y) #[] #[])/\W.heap.size<=V.heap.size)
  (fun c k V=>c= .ret/\Jx k V/\W.heap.size<=V.heap.size)
  ?stI ?stX ⟨HJ _ _ _ H0 (St.of_ext g),T,Yn t⟩ ?round ?done ?stop
 case stI=>
  intro k A B ⟨h1,h2,h3⟩ cf;exact⟨HJ _ _ _ h1 (cf.mono (Yn t)),cf.boxed h2 (.inr t),VG h3 cf.size⟩
 case stX=>
  intro c k A B ⟨L,h1,h3⟩ cf;exact⟨L,a4 _ _ _ h1 (cf.mono (Yn t)),VG h3 cf.size⟩
 case round=>
  rintro lo k⟨j,x⟩V m rfl hV⟨r,K,a3⟩;have G:=N3 m;simp only at G;obtain⟨X,hX⟩:∃X:ByteArray,⟨x.toArray⟩=X:=⟨_,rfl⟩;rw[hX]at G;refine P3 G hX r fun HXL HX HI1=>?_;unfold MI rz;rw[HX.out];gi_wp2
  refine⟨jF.refl _,⟨HI1,K,a3⟩,?_⟩;rintro Vb⟨j1,j2,j3⟩cf hzz;obtain⟨fn,tmps,assign,body,U,hR⟩:=HY.out k X Vb HXL j1 j3;refine P4 hR j2 fun Z J2=>have d0:=j2.cell;?_;unfold ID at U;gi_wp2
  refine RoundIn.mono (F:=Fence.wide.inRound _) Z ?_;rintro e' V'(⟨rfl,ah,p⟩|⟨rfl,N,p⟩)
  .refine P4 ah p fun R u=>?_;gi_wp2
   exact⟨u,R,u.boxed J2 HC3 (fun h=>h),VG j3 u.size⟩
  refine P4 N p fun R u=>?_;gi_wp2
  exact⟨u,rfl,R,VG j3 u.size⟩
 case done=>
  intro V ⟨r,K,a3⟩ H;refine P4 r H fun HI u=>?_;gi_wp2
  refine dB u (v:=UW #[]) XK ⟨⟨_,rfl⟩,.inl ?_⟩;have h1:=HI.out;rw[iB]at h1;rw[VR,List.length_reverse];exact HJ.out _ _ _ h1 (St.putObj u (Yn t) (fun _ _ _ e=>RH))
 rintro c k V o⟨rfl,r,K⟩H;refine P4 r H fun HI u=>?_;gi_wp2
 refine dB u (v:=UW #[]) XK ⟨⟨_,rfl⟩,.inr ⟨k,?_,a4.out _ _ _ HI (St.putObj u (Yn t) (fun _ _ _ e=>RH))⟩⟩;rw[iB]at o;rw[VR,List.length_reverse];exact o
def vf(t:WR):Prop:=t=3
def NJ{ns}{L:List ByteArray}{X}{x:Dv}{last}(m:L[k]?=Ts X)(hn:ns[n]?=Ts x):
  Bu ns (L.drop k) n last=match eT ns X x.kids with
   |some q=>Bu ns (L.drop (k+1)) q.toNat (if x.below=-1 then last else x.below)
   |none=>if x.below=-1 then last else x.below:=by
 rw[List.drop_eq_getElem?_toList_append,m]
 show Bu ns (X::L.drop (k+1)) n last=_
 rw[Bu,hn];try rfl
def ad2{ns}{x:Dv}{last}(hn:ns[n]?=Ts x):Bu ns [] n last=if x.here'=-1 then last else x.here':=by
 rw[Bu,hn]
def mp{C:WR->Prop}{b}(h:VX W b t v)(c:C t):CC C W b:=⟨_,_,_,h,c⟩
def DG(ns:List Dv)(s:ByteArray)(a cap n b rv w)(hn:ns.length=n)(hnc:n<=cap)(hcm:cap<=VL)(p:ut w a ns)(o:∀(j:Nat)(x:Dv),ns[j]?=Ts x->Aw ns x.kids)(L:0<n)(z:s.size<=9223372036854775807)(ht:fE w b rv (Tm a n cap))(hw:xB w):
  VB UB 191 #[UH s,UK (Ts ⟨b,0,U8⟩)] w (bM (Ti Tl (Bu ns (gS s) 0 (-1))) w):=by
 refine(Vn (n:=0)).1 ?_;refine YV func191 rfl trivial ?_ rfl;simp only[ntmps191,WG,Up,VJ,VO,YI,WX,WY,XF,Wi,Vd,Vu];obtain⟨y0,hy0⟩:=ay (l:=ns) (k:=0) hn L;obtain⟨g,off,rfl,-⟩:=p 0 y0 hy0;refine PG hw p hn ht o hnc hcm fun HW HL HN HT HK HNC HCM=>have hcm':=hcm;?_;unfold VL at hcm';clear hw p hn ht o hy0;gi_wp2_with (gi_at_call 67;refine(Vn.2 (C7 _ _)).mono ?_;rintro e w'⟨rfl,rfl⟩)
 refine P1 ((((w.alloc (Tq #[Ti Tl 0] 3)).alloc (Tq #[Ti Tl 0] 3)).alloc (Tq #[Ti Tl (-1)] 3)).alloc (Tq #[UH s] 9)) fun f d=>have hB:aq w f:=X6;have b0:VX f w.heap.size 3 (Ti Tl 0):=Rq;?_;have b1:VX f (w.heap.size+1) 3 (Ti Tl (0:Nat)):=by rw[<-d];have:=((Wt (w.alloc (Tq #[Ti Tl 0] 3)) 3 (Ti Tl 0)).alloc (Tq #[Ti Tl (-1)] 3)).alloc (Tq #[UH s] 9);rwa[Ud]at this
 have b2:VX f (w.heap.size+1+1) 3 (Ti Tl (-1)):=by rw[<-d];have:=(Wt ((w.alloc (Tq #[Ti Tl 0] 3)).alloc (Tq #[Ti Tl 0] 3)) 3 (Ti Tl (-1))).alloc (Tq #[UH s] 9);rwa[Ud,Ud]at this
 have b3:VX f (w.heap.size+1+1+1) 9 (UH s):=by rw[<-d];have:=Wt (((w.alloc (Tq #[Ti Tl 0] 3)).alloc (Tq #[Ti Tl 0] 3)).alloc (Tq #[Ti Tl (-1)] 3)) 9 (UH s);rwa[Ud,Ud,Ud]at this
 have hz:f.heap.size=w.heap.size+4:=Zbf;rw[d];clear d;have Hz:=Tn hz;clear hz;have hz:=Hz.out;have nC1:¬vf 73:=Zbk;have nC2:¬vf 9:=Zbk;have nC3:¬vf 226:=Zbk;have yC:vf 3:=rfl;refine P1 (Bu ns (gS s) 0 (-1)) fun res Q=>?_;rw[Q];refine mL (C:=vf) rfl (Vv func131 Pg rfl) (ww s (w.heap.size+1+1+1) z vf nC1 nC2 nC3)
  (fun o1 o2=>⟨(b3.alloc _).alloc _,HW.ext (af (af hB _) _)⟩) (fun x=>rfl)
  (fun _=>False) (fun b hb=>hb.elim)
  (fun k V=>∃(m:Nat)(last:Int),Bu ns ((gS s).drop k) m last=res/\m<n/\VX V w.heap.size 3 (Ti Tl 0)/\VX V (w.heap.size+1) 3 (Ti Tl m)/\VX V (w.heap.size+1+1) 3 (Ti Tl last)/\aq w V)
  (fun c k V=>c= .ret/\VX V w.heap.size 3 (Ti Tl res)/\aq w V)
  ?stI ?stX ⟨0,-1,Q,L,b0,b1,b2,hB⟩ ?round ?done ?stop
 case stI=>
  intro k A B ⟨m,last,h1,h2,h3,h4,h5,h6⟩ cf;exact⟨m,last,h1,h2,cf.boxed h3 (.inl yC),cf.boxed h4 (.inl yC),cf.boxed h5 (.inl yC),h6.trans ((cf.mono Ph).below h6.size)⟩
 case stX=>
  intro c k A B ⟨L,h3,h6⟩ cf;exact⟨L,cf.boxed h3 (.inl yC),h6.trans ((cf.mono Ph).below h6.size)⟩
 case round=>
  rintro lo k X V hx rfl hV hi;refine P4 hx hi fun HX HI=>?_;clear hx hi;unfold ID;gi_wp2
  refine⟨jF.refl _,HI,?_⟩;clear HI;rintro E⟨m,last,i1,i2,i3,i4,i5,K⟩- -;obtain⟨x,u⟩:=ay HN i2;have I:=NJ (last:=last) HX u;rw[i1]at I;have hkx:=HK.out m x u;have r:=HL.out.ext K;obtain⟨t0,t1⟩:=(HT.ext K).cells;obtain⟨g',off',hgg,-,d1,d2,-,-⟩:=r m x u;cases hgg;have hmc:m<=cap:=Ph;have c4:=i4.cell;have c5:=i5.cell;have f4:=i4.frozen;have f5:=i5.frozen;have c3:=i3.cell;have f3:=i3.frozen;refine P8 I u hkx r i3 i4 i5 K fun T HX1 W HNO I3 I4 I5 S=>?_;clear i1 i3 i4 i5 K I u hkx r hV t0;cases M:(x.below==-1);all_goals
   first
   |(
     have G:(if x.below=-1 then last else x.below)=last:=if_pos Zfn;have O:Hid (VX E w.heap.size 3 (Ti Tl 0)/\VX E (w.heap.size+1) 3 (Ti Tl m)/\VX E (w.heap.size+1+1) 3 (Ti Tl last)/\aq w E/\Kp vf E E/\ut E (Ts ⟨g,off,U8⟩) ns):=
      Tn ⟨I3,I4,I5,S,jF.refl _,HNO⟩)
   |(
     have G:(if x.below=-1 then last else x.below)=x.below:=if_neg Zfn;have P:Fr (fun b=>b=w.heap.size+1+1) E (E.setCell ⟨w.heap.size+1+1,0,U8⟩ (Ti Tl x.below)):=Uz _ _ _ rfl;have Y:aq w (E.setCell ⟨w.heap.size+1+1,0,U8⟩ (Ti Tl x.below)):=S.out.trans (P.below S.size (fun k o=>Ph));have O:Hid (VX (E.setCell ⟨w.heap.size+1+1,0,U8⟩ (Ti Tl x.below)) w.heap.size 3 (Ti Tl 0)/\VX (E.setCell ⟨w.heap.size+1+1,0,U8⟩ (Ti Tl x.below)) (w.heap.size+1) 3 (Ti Tl m)/\VX (E.setCell ⟨w.heap.size+1+1,0,U8⟩ (Ti Tl x.below)) (w.heap.size+1+1) 3 (Ti Tl x.below)/\aq w (E.setCell ⟨w.heap.size+1+1,0,U8⟩ (Ti Tl x.below))/\Kp vf E (E.setCell ⟨w.heap.size+1+1,0,U8⟩ (Ti Tl x.below))/\ut (E.setCell ⟨w.heap.size+1+1,0,U8⟩ (Ti Tl x.below)) (Ts ⟨g,off,U8⟩) ns):=
      Tn ⟨P.boxed I3 Ph,P.boxed I4 Ph,I5.set _,Y,jF.setCell _ _ _ (mp I5 yC),HL.ext Y⟩
     clear P Y)
   have HL2:=Tn G
   clear G
   cases F:eT ns X x.kids with
   |none=>
    refine P4 F ((show res=(if x.below=-1 then last else x.below)from Ry).trans HL2) fun ab Z=>?_;clear F T;gi_wp2_with (gi_at_call 68;refine(Vn.2 (uD ns X _ cap n m x _ HN HNC HCM O.2.2.2.2.2 HX1 W)).mono ?_;rintro e w1⟨rfl,t⟩;rw[ab.out];obtain⟨z1,z2,z3,z4,z5,z6⟩:=O.out;have R:=(aC t z1);have k3:=(aC t z3);have am:=R.cell;have e3:=k3.cell;have f1:=R.frozen;refine P3 R (aa z4 t) (z5.trans (jF.of_ext t)) fun K1 KE KK=>?_;clear z1 z2 z3 z4 z5 z6 t R k3)
    exact⟨KK.trans (jF.setCell _ _ _ (mp K1 yC)),rfl,by rw[Z.out];exact K1.out.set _,KE.setCell (UY _) _⟩
   |some q=>
    obtain⟨N,y,U,-⟩:=qD F;obtain⟨hq0,ac⟩:=W.out q N;obtain⟨m2,rfl⟩:∃m2:Nat,q=m2:=⟨q.toNat,Ph⟩;have hm2:m2<n:=by rw[XU,HN.out]at ac;exact ac
    refine P4 F ((show res=Bu ns ((gS s).drop (k+1)) m2 (if x.below=-1 then last else x.below)from Ry).trans (by rw[HL2.out])) fun ab Z=>?_;clear F T N U hq0 ac;gi_wp2_with (gi_at_call 68;refine(Vn.2 (uD ns X _ cap n m x _ HN HNC HCM O.2.2.2.2.2 HX1 W)).mono ?_;rintro e w1⟨rfl,t⟩;rw[ab.out];obtain⟨z1,z2,z3,z4,z5,z6⟩:=O.out;have R:=(aC t z2);have f1:=R.frozen;have am:=R.cell;refine PC (aC t z1) R (aC t z3) (aa z4 t) (z5.trans (jF.of_ext t)) fun K0 K1 K3 KE KK=>?_;clear z1 z2 z3 z4 z5 z6 t R)
    have P:Fr (fun b=>b=w.heap.size+1) w1 (w1.setCell ⟨w.heap.size+1,0,U8⟩ (Ti Tl (m2:Int))):=Uz _ _ _ rfl;exact⟨KK.trans (jF.setCell _ _ _ (mp K1 yC)),m2,_,Z.symm,hm2,P.boxed K0 Ph,K1.set _,P.boxed K3 Ph,KE.setCell (Nat.le_succ _) _⟩
 case done=>
  intro V ⟨m,last,i1,i2,i3,i4,i5,K⟩ H;obtain⟨x,u⟩:=ay HN i2;rw[List.drop_length,ad2 u]at i1;have r:=HL.out.ext K;obtain⟨t0,t1⟩:=(HT.ext K).cells;obtain⟨g',off',hgg,-,d1,d2,-,-⟩:=r m x u;cases hgg;have hmc:m<=cap:=Ph;have c4:=i4.cell;have c5:=i5.cell;have c3:=i3.cell;have f3:=i3.frozen;refine P5 i1 i3 K H fun Z I3 S HKK=>?_;clear i1 i3 i4 i5 K r t0 H u;cases M:(x.here'==-1);all_goals
   first
   |(have G:(if x.here'=-1 then last else x.here')=last:=if_pos Zfn)
   |(have G:(if x.here'=-1 then last else x.here')=x.here':=if_neg Zfn)
   have HRR:=Tn (Z.symm.trans G)
   clear G
   gi_wp2
   have N:=jQ (I3.set (Ti Tl res)) (D:=f.heap.size) Ph (.deferred U8)
   have J:=N.cell
   rw[<-HRR.out]
   refine dB ((Below.heap_setCell _ _ _ _ Pp).trans HKK) (v:=Ti Tl res) XB ⟨by first|rfl|rw[Q],?_⟩
   exact fN (S.setCell (UY _) _) Ph (by have:=S.out.size;simp[XY];omega) _
 rintro c k V o⟨rfl,i3,K⟩H;have N:=jQ i3 (D:=f.heap.size) Ph (.deferred U8);have J:=N.cell;refine P3 H K J fun HKK S HQ=>?_;clear i3 K H N J;gi_wp2
 have J:=HQ.out;refine dB HKK (v:=Ti Tl res) XB ⟨rfl,?_⟩;exact fN S Ph (by have:=S.out.size;omega) _
end
section
open Go.ChangeShapes Go.WideShapes Go.ChangeAt
def own:ownKnob UB.godebug=U8:=Pg
def M3:laidOutB UB=true:=Pg
def yp{H:Type}{enc:WR×UV->H}{g}(hb:Below W.heap.size W g):∀(c:List WR)(vs:List UV)(ds:List (DataW H))(ps:List MemPlace),
  (∀t∈c,UB.readableRec t=true/\t<UB.types.size)->DataW.TrodAll enc UB W 0 (fun _=>true) true c vs ds ps->(∀x∈ps,x.block<W.heap.size)->
  DataW.TrodAll enc UB g 0 (fun b=>decide (b<W.heap.size)) true c vs ds ps:=by
 intro c;induction c with
 |nil=>
  intro vs ds ps _ h _;obtain⟨rfl,rfl,rfl⟩:=trodAll_nil h;exact trodAll_mk0
 |cons t c j=>
  intro vs ds ps f h R;obtain⟨v,o,d,l,p,q,rfl,rfl,rfl,L,r⟩:=trodAll_cons h;exact trodAll_cons_mk (Below.trod M3 (f t Pm).1 (f t Pm).2 L hb (fun x m=>R x (by simp[m]))) (j _ _ _ (fun u X=>f u (by simp[X])) r (fun x m=>R x (by simp[m])))
def LP{H:Type}{enc:WR×UV->H}{f:Func}{s:ChangeSpec}{apart l c z}{args:Array UV}{ds gs:List (DataW H)}{b:List MemPlace}(r:DataW.Whole enc UB f.params.toList s.vars apart W args.toList ds gs b)(d:s.vars=[])(j:∀t∈f.params.toList,UB.readableRec t=true/\t<UB.types.size)(u:(s.fn H (ds++[])).results=[.lit (.bool true)]/\(s.fn H (ds++[])).args=ds/\(s.fn H (ds++[])).vars=[])(o:f.resultTypes=#[4])(g:aq W z):s.post enc UB f apart l c false W args (.bool true) z:=by
 have R:∀p∈b,p.block<W.heap.size:=fun p D=>r.lt p D;have Y:=r;obtain⟨p,q,B,y,rfl,A,F⟩:=r;rw[d]at y;obtain⟨rfl,rfl⟩:=trodVars_none y;obtain⟨am,C,E⟩:=u;refine⟨ds,[],_,[],p,[],Y,?_,?_,?_,g.frame _,fun h=>Rw⟩
 .rw[am,o];exact trodAll_mk1 (shut_bool underlying4 true)
 .rw[C];exact yp g _ _ _ _ j B (fun x m=>R x (by simp[m]))
 rw[E,d];rfl
def aiV(h:Array Obj)(g:Nat)(cs:Array UV):Array Obj:=h.modify g fun
 |Tq _ t b=>Tq cs t b
 |o=>o
def afN:Array UV:=#[Ti Uy 128,Ti Uy 191,Ti Uy 160,Ti Uy 191,Ti Uy 128,Ti Uy 159,Ti Uy 144,Ti Uy 191,Ti Uy 128,Ti Uy 143,Ti Uy 0,Ti Uy 0,Ti Uy 0,Ti Uy 0,Ti Uy 0,Ti Uy 0,Ti Uy 0,Ti Uy 0,Ti Uy 0,Ti Uy 0,Ti Uy 0,Ti Uy 0,Ti Uy 0,Ti Uy 0,Ti Uy 0,Ti Uy 0,Ti Uy 0,Ti Uy 0,Ti Uy 0,Ti Uy 0,Ti Uy 0,Ti Uy 0]
noncomputable def zd(os:Os):UN:=
 {World.holding UB os ⟨#[],#[],[]⟩with heap:=aiV (aiV (World.holding UB os ⟨#[],#[],[]⟩).heap 5 afN) 4 (Go.Pinned.utf8FirstZ.map fun(n:Nat)=>Ti Uy n).toArray}
end
section
attribute [local go_sem] KX Ft
end
section
open Go.Maps
def Cz(t:WR):Prop:=t=152\/t=25\/t=3
def Bq:Cz 152:= .inl rfl
def IC:Cz 25:= .inr (.inl rfl)
def BT:Cz 3:= .inr (.inr rfl)
def jF.grown{S:Nat->Prop}{C:WR->Prop}{w b:UN}{base e m n v l}(h:w.ownsRow base e m v n l)(j:C e)(c:w.grownBy b v.ownBlock):jF S C w b:=by
 refine⟨c.os,c.tape,c.output,c.size,fun k o J _=>c.block k o fun d=>?_⟩;rcases h.2 with⟨rfl,_⟩|⟨g,cap,f,rfl,_,p,_⟩
 .simp[Vt]at d
 simp only[Vt,Vw]at d;subst d;exact J ⟨_,_,_,p,j⟩
def uI{C:WR->Prop}{w:UN}{base e m n v d}(h:w.ownsRow base e m v n d)(c:C e){g}(S:v.ownBlock=Ts g):CC C w g:=by
 rcases h.2 with⟨rfl,_⟩|⟨g',cap,b,rfl,_,f,_⟩
 .simp[Vt]at S
 simp only[Vt,Vw]at S;subst S;exact⟨_,_,_,f,c⟩
def aP.st{n0 w b base v ns c}(h:aP w base v ns c)(z:St n0 Cz w b):aP b base v ns c:=
 h.keep (fun g S=>z.block g (h.row.lt g S).2 (.inr (uI h.row Bq S))) fun j d g o S=>by
  obtain⟨x,m⟩:=h.get o;exact z.block g ((h.kids j x d m o).lt g S).2 (.inr (uI (h.kids j x d m o) BT S))
def CN{p:au}(h:cX p=true):Yw p [42,46]=cD p:=by
 cases z:cD p
 .have hb:gX p=true:=by unfold cX at h;rw[z]at h;exact h
  rw[Xm];intro x;unfold Yw at x;obtain⟨t,rfl⟩:=List.isPrefixOf_iff_prefix.1 x;rw[show([42,46]:au)++t=42::46::t from rfl,rI]at hb;cases hb
 obtain⟨t,rfl,_⟩:=(jX p).1 z;unfold Yw;rfl
def LD{p:ByteArray}(h:cX p.data.toList=true){O:ByteArray}(b:O.data.toList=Mp p):gS O=ed p:=by
 unfold gS ed jj;rw[b,if_pos (aj2 h)]
def Hu(ops:Array Xd):Nat->Nat->Nat->Bool
 |0,k,m=>bf ops k m
 |f+1,k,m=>bf ops k m||(We ops.size).any fun x=>bf ops k x&&Hu ops f x m
def Ij{ops}{L:Nat->Prop}(J:∀j k,L j->bf ops j k=true->L k){m}:∀(f k:Nat),Hu ops f k m=true->L k->L m
 |0,k,h,o=>J k m o h
 |f+1,k,h,o=>by
  unfold Hu at h;rcases WU _ _▸h with h|h
  .exact J k m o h
  obtain⟨x,-,b⟩:=List.any_eq_true.1 h;rw[V7]at b;exact Ij J f x b.2 (J k x o b.1)
def MZ(i j k:Nat)(f t I O:UN)(L:Nat->Prop)(w:UN):Prop:=(¬L i/\¬L j/\¬L k/\w=f)\/(L i/\¬L j/\¬L k/\w=t)\/(L i/\L j/\¬L k/\w=I)\/(L i/\L j/\L k/\w=O)
section
variable {ops:Array Xd} {i j k:Nat} {W0 W1 W2 W3:UN} {L:Nat->Prop} {w:UN}
def eY(h:MZ i j k W0 W1 W2 W3 L w)(m)(b:¬L m)(J:∀j k,L j->bf ops j k=true->L k)(K:m≠i/\m≠j/\m≠k)(o:Hu ops 4 k m=true):
  (w=W0\/w=W1\/w=W2)/\MZ i j k W0 W1 W2 W3 (fun x=>L x\/x=m) w:=by
 have e:∀q,q≠m->((L q\/q=m)↔L q):=fun q N=>⟨fun h=>h.resolve_right N,.inl⟩;have A:¬L k:=fun x=>b (Ij J 4 k o x);unfold MZ;simp only;rw[e i K.1.symm,e j K.2.1.symm,e k K.2.2.symm];rcases h with h|h|h|h
 .exact⟨.inl h.2.2.2,.inl h⟩
 .exact⟨.inr (.inl h.2.2.2),.inr (.inl h)⟩
 .exact⟨.inr (.inr h.2.2.2),.inr (.inr (.inl h))⟩
 exact absurd h.2.2.1 A
def ahI(h:MZ i j k W0 W1 W2 W3 L w)(b:¬L i)(zs:j≠i/\k≠i):w=W0/\MZ i j k W0 W1 W2 W3 (fun x=>L x\/x=i) W1:=by
 rcases h with h|h|h|h
 .exact⟨h.2.2.2,.inr (.inl ⟨.inr rfl,fun x=>x.elim h.2.1 zs.1,fun x=>x.elim h.2.2.1 zs.2,rfl⟩)⟩
 all_goals exact absurd h.1 b
def ahR(h:MZ i j k W0 W1 W2 W3 L w)(c:¬L j)(d:∀x,bf ops j x=true->L x)(b:bf ops j i=true)(zs:i≠j/\k≠j):w=W1/\MZ i j k W0 W1 W2 W3 (fun x=>L x\/x=j) W2:=by
 have hi:=d i b;rcases h with h|h|h|h
 .exact absurd hi h.1
 .exact⟨h.2.2.2,.inr (.inr (.inl ⟨.inl hi,.inr rfl,fun x=>x.elim h.2.2.1 zs.2,rfl⟩))⟩
 .exact absurd h.2.1 c
 exact absurd h.2.1 c
def ahW(h:MZ i j k W0 W1 W2 W3 L w)(c:¬L k)(d:∀x,bf ops k x=true->L x)(b:bf ops k j=true):w=W2/\MZ i j k W0 W1 W2 W3 (fun x=>L x\/x=k) W3:=by
 have Q:=d j b;rcases h with h|h|h|h
 .exact absurd Q h.2.1
 .exact absurd Q h.2.1
 .exact⟨h.2.2.2,.inr (.inr (.inr ⟨.inl h.1,.inl Q,.inr rfl,rfl⟩))⟩
 exact absurd h.2.2.1 c
def ac4(h:MZ i j k W0 W1 W2 W3 L w){n:Nat}(b:∀x,x<n->L x)(o:k<n):w=W3:=by
 have:=b k o;rcases h with h|h|h|h
 .exact absurd this h.2.2.1
 .exact absurd this h.2.2.1
 .exact absurd this h.2.2.1
 exact h.2.2.2
end
end
section
open Go.Maps
attribute [local go_sem] ZA fP cP dR aB
def aaY(c:UN)(base d:Nat)(ns:List Dv)(ds:List Deferred)(V:UN):Prop:=
 ∃v b,VX V d 25 v/\aP V base v ns b/\(∃ps,ew ns ps)/\Below base c V/\gT base V V.heap.size ds
def aaY.ext{base ns ds f}(h:aaY b base j ns ds V)(g:aq V f)(hb:base<=b.heap.size):aaY b base j ns ds f:=by
 obtain⟨v,d,h1,c,A,l,m⟩:=h;exact⟨v,d,aC g h1,c.ext g,A,l.trans (g.mono (VG hb l.size)),(m.ext g).le g.size⟩
def ah4(l:UN)(base o f:Nat)(d:List Dv)(c:List ByteArray)(ds:List Deferred)(q:Nat)(V:UN):Prop:=
 ∃ns m v b,oN d (c.take q)=(ns,m)/\VX V o 25 v/\aP V base v ns b/\VX V f 3 (Ti Tl (m:Int))/\(∀(j:Nat)(g:UV),b[j]?=Ts g->g.ownBlock≠Ts f)/\Below base l V/\gT base V f ds
def ah4.st{g base l f d b ds B}(h:ah4 g base l f d b ds q A)(cf:St n0 Cz A B)(hb:base<=g.heap.size)(hn:f<=n0)(u:base<=f):ah4 g base l f d b ds q B:=by
 obtain⟨ns,m,v,j,h1,c,t,p,s,o,r⟩:=h;exact⟨ns,m,v,j,h1,cf.boxed c (.inl IC),t.st cf,cf.boxed p (.inl BT),s,o.trans ((cf.mono Ph).below (VG hb o.size)),r.st (Yn p.lt) hn cf⟩
def aP.setInt{base c ns b}(h:aP V base v ns b)(hb:VX V c 3 x)(f:∀(j:Nat)(d:UV),b[j]?=Ts d->d.ownBlock≠Ts c)(u:UV):aP (V.setCell ⟨c,0,U8⟩ u) base v ns b:=by
 have zs:∀g,g≠c->(V.setCell ⟨c,0,U8⟩ u).heap[g]?=V.heap[g]? :=fun g S=>Below.heap_setCell _ _ _ _ S;refine h.keep (fun g S=>zs g fun e=>?_) (fun j d g o S=>zs g fun e=>f j d o (by rw[S,e]));subst e;exact absurd (gr h.row S hb) Pi
def aP.setBox{base b ns c}(h:aP V base v ns c)(hb:VX V b 25 x)(u:UV):aP (V.setCell ⟨b,0,U8⟩ u) base v ns c:=by
 have zs:∀g,g≠b->(V.setCell ⟨b,0,U8⟩ u).heap[g]?=V.heap[g]? :=fun g S=>Below.heap_setCell _ _ _ _ S;refine h.keep (fun g S=>zs g fun e=>?_) (fun j d g o S=>zs g fun e=>?_)
 .subst e;exact absurd (gr h.row S hb) Pi
 subst e;obtain⟨y,U⟩:=h.get o;exact absurd (gr (h.kids j y d U o) S hb) Pi
def sY{base l}(h:w.ownsRow base e m v n l)(o:∀(k:Nat)(c:Array UV)(t:WR)(f:Nat×Nat),w.heap[k]?=Ts (Tq c t f)->b.heap[k]?=Ts (Tq c t f)):∀g,v.ownBlock=Ts g->b.heap[g]?=w.heap[g]?:=fun g S=>by
 rcases h.2 with⟨rfl,_⟩|⟨g',cap,j,rfl,_,d,_⟩
 .simp[Vt]at S
 simp only[Vt,Vw]at S;subst S;exact(o _ _ _ _ d).trans d.symm
def ND(h:cX p.data.toList=true){X:ByteArray}(b:X∈ed p):X.size<=VL:=by
 unfold ed jj at b;obtain⟨c,m,rfl⟩:=Wl.1 b;have h1:=(gC.1 (aj2 h)).2.2 c (List.mem_reverse.1 m);unfold df at h1;simp only[V7,decide_eq_true_eq]at h1;rw[Ik];unfold VL;omega
def Ap{a:Act}{s x:Operand}{d c:UV}(g:o.op= .call {callee:= .builtin .append,args:=#[s,x],argTypes:=#[t,t]})(z:a.eval s=v)(m:a.eval x=d)(u:(Builtin.append_ #[t,t] o.type #[v,d]).run P w= .ok c b)(f:G c b):ak P o a w G:=by
 unfold ak execOp;simp only[g,resolve,invoke,builtin,Sem.run_bind,Sem.run_pure,Result.andThen_ok,List.map_toArray,WI,Ym,z,m,u];exact f
def afO(t:Nat->UV):Array.ofFn (n:=97) (fun i=>t i.val)=#[t 0,t 1,t 2,t 3,t 4,t 5,t 6,t 7,t 8,t 9,t 10,t 11,t 12,t 13,t 14,t 15,t 16,t 17,t 18,t 19,t 20,t 21,t 22,t 23,t 24,t 25,t 26,t 27,t 28,t 29,t 30,t 31,t 32,t 33,t 34,t 35,t 36,t 37,t 38,t 39,t 40,t 41,t 42,t 43,t 44,t 45,t 46,t 47,t 48,t 49,t 50,t 51,t 52,t 53,t 54,t 55,t 56,t 57,t 58,t 59,t 60,t 61,t 62,t 63,t 64,t 65,t 66,t 67,t 68,t 69,t 70,t 71,t 72,t 73,t 74,t 75,t 76,t 77,t 78,t 79,t 80,t 81,t 82,t 83,t 84,t 85,t 86,t 87,t 88,t 89,t 90,t 91,t 92,t 93,t 94,t 95,t 96]:=Pg
def NY(A:Array UV)(h:A.size=97):∃t:Nat->UV,(∀i,t i=A.getD i VM)/\A=#[t 0,t 1,t 2,t 3,t 4,t 5,t 6,t 7,t 8,t 9,t 10,t 11,t 12,t 13,t 14,t 15,t 16,t 17,t 18,t 19,t 20,t 21,t 22,t 23,t 24,t 25,t 26,t 27,t 28,t 29,t 30,t 31,t 32,t 33,t 34,t 35,t 36,t 37,t 38,t 39,t 40,t 41,t 42,t 43,t 44,t 45,t 46,t 47,t 48,t 49,t 50,t 51,t 52,t 53,t 54,t 55,t 56,t 57,t 58,t 59,t 60,t 61,t 62,t 63,t 64,t 65,t 66,t 67,t 68,t 69,t 70,t 71,t 72,t 73,t 74,t 75,t 76,t 77,t 78,t 79,t 80,t 81,t 82,t 83,t 84,t 85,t 86,t 87,t 88,t 89,t 90,t 91,t 92,t 93,t 94,t 95,t 96]:=by
 refine⟨fun i=>A.getD i VM,fun _=>rfl,?_⟩;rw[<-afO fun i=>A.getD i VM];apply Array.ext
 .simp[h]
 intro i h1 c;simp[Array.getD,h1]
def tm(l:List b7)(a cap n w)(hn:l.length=n)(hnc:n<=cap)(hcm:cap<=VL)(hl:qz w a l)(hfew:n<=1000)(hpf:∀r∈l,r.pats.length<=1000)(hw:xB w):
  VB UB 19 #[Tm a n cap] w (EJ (t7 l) (lu l) (bL l) w):=by
 refine PG hn hnc hcm hl hfew hw hpf fun HN HNC HCM HL HFE HW HPF=>?_;unfold VL at hcm;refine P1 (bL l) fun x hx=>?_;obtain⟨i0,hi0,hz0,hz1',hz2'⟩:=WN infoNode;have HX:=Tn hx;clear hn hl hx hw hpf;refine(Vn (n:=0)).1 ?_;refine YV func19 rfl trivial ?_ rfl;simp only[ntmps19,WG,Up,VJ,VO,YI,WX,WY,XF,Wi,Vd,Vu];have hb0:fE (w.alloc (Tq #[zz,zz] 27)) w.heap.size (zz) (zz):=fE.new _ _ _;have B0:=Tn hb0;have HE0:Hid (aq w (w.alloc (Tq #[zz,zz] 27))):=Tn (af P0 _);clear hb0;by_cases h0:x=0
 .have t0:(x !=0)=false:=by simpa using h0
  refine P3 (xh.1 (HX.trans h0)) (show t7 l=l/\lu l=ef l from⟨by unfold t7;rw[if_pos (HX.trans h0)],by unfold lu;rw[if_pos (HX.trans h0)]⟩) h0 fun Z HC H0=>?_;clear h0;gi_wp2_with (gi_at_call 65;refine(Vn.2 (vj l a cap n _ HN HNC HCM (HL.ext HE0) HFE HPF)).mono ?_;rintro e w1⟨rfl,hE1⟩;rw[HX.out];have s:=Tn hE1;clear hE1)
  refine P1 (w1.alloc (Tq #[UH ⟨#[]⟩,Ti Tl (-1),Ti Tl (-1),zz] 152)) fun T hw1a=>?_;have hz1:T.heap.size=w1.heap.size+1:=by rw[<-hw1a];simp
  have hN0:=Ku T T.heap.size (UY _);refine P1 ((T.alloc (Tq #[UH ⟨#[]⟩,Ti Tl (-1),Ti Tl (-1),zz] 152)).alloc (Tq #[Tm (Ts ⟨T.heap.size,0,U8⟩) 1 1] 25)) fun I Y=>?_;have hz2:I.heap.size=w1.heap.size+3:=by rw[<-Y];simp;omega
  have D:aq w1 I:=by rw[<-Y,<-hw1a];exact af (af (af P0 _) _) _
  have hb6:VX I (w1.heap.size+1+1) 25 (Tm (Ts ⟨T.heap.size,0,U8⟩) 1 1):=by rw[<-Y];have:=Wt (T.alloc (Tq #[UH ⟨#[]⟩,Ti Tl (-1),Ti Tl (-1),zz] 152)) 25 (Tm (Ts ⟨T.heap.size,0,U8⟩) 1 1);rw[Ud]at this;rwa[show w1.heap.size+1+1=T.heap.size+1 from Ph]
  have hb5:I.heap[w1.heap.size]?=Ts (Tq #[UH ⟨#[]⟩,Ti Tl (-1),Ti Tl (-1),zz] 152 (0,0)):=by
   have h1:T.heap[w1.heap.size]?=Ts (Tq #[UH ⟨#[]⟩,Ti Tl (-1),Ti Tl (-1),zz] 152 (0,0)):=by rw[<-hw1a];exact UZ _ _
   rw[<-Y];exact((af (af (Below.refl _ T) _) _).block _ Ph).trans h1
  have hno:aP I T.heap.size (Tm (Ts ⟨T.heap.size,0,U8⟩) 1 1) [gN ⟨#[]⟩] [zz]:=by rw[<-Y];exact hN0.ext (af P0 _)
  rw[hz1]at hno hb6;have hbt:=(B0.ext (aa s D));have hCP:aaY I (w1.heap.size+1) (w1.heap.size+1+1) [gN ⟨#[]⟩] [] I:=⟨_,_,hb6,hno,⟨_,ew.start⟩,P0,trivial⟩;rw[hw1a,show w1.heap.size+1=T.heap.size from hz1.symm,Y];have hEw:aq w I:=aa (aa HE0 s) D;refine P1 w1.heap.size fun b5 hb5e=>P1 T.heap.size fun base hbase=>P1 (base+1) fun b6 hb6e=>have hbase':b5+1=base:=Ph;?_;have hwb:w.heap.size<b5:=by rw[<-hb5e];exact(B0.ext s).lt
  rw[hb5e]at hb5 hz2⊢;rw[show w1.heap.size+1=base from Ph,hb6e]at hCP;rw[hbase,hb6e];have hbz:I.heap.size=base+2:=Ph;refine PC hb5 hbt hCP hEw hbz fun HB5 HBT HCP HEW HBZ=>?_;clear hw1a hz1 hN0 Y hz2 D hb6 hb5 hno hbt hCP hEw hb5e hbase hbz s B0 HE0;refine wpIn_loop (fun a' wr=>a'.tmps.size=97/\a'.tmps.getD 0 VM=Tm a n cap/\a'.tmps.getD 2 VM=UK (Ts ⟨w.heap.size,0,U8⟩)/\a'.tmps.getD 5 VM=UK (Ts ⟨b5,0,U8⟩)/\a'.tmps.getD 6 VM=UK (Ts ⟨b6,0,U8⟩)/\a'.tmps.getD 27 VM=Tm a n cap/\a'.tmps.getD 28 VM=Ti Tl (n:Int)/\∃(k:Nat),k<=n/\a'.tmps.getD 29 VM=Ti Tl (k:Int)/\aaY I base b6 (ce l k) a'.defers wr/\(ce l k).length<=1+64*k) (fun a' _=>n-(VS (a'.tmps.getD 29 VM)).toNat) ?atStart ?round
  case atStart=>exact⟨rfl,rfl,rfl,rfl,rfl,rfl,rfl,0,VF _,rfl,HCP,UY _⟩
  case round=>
   rintro⟨A,ds⟩wr⟨hsz,h0,h2,h5,h6,h27,h28,k,o,h29,hcp,hle⟩;obtain⟨t,ht,rfl⟩:=NY A hsz;clear ht hsz;have e0:t 0=Tm a n cap:=h0;have e2:t 2=UK (Ts ⟨w.heap.size,0,U8⟩):=h2;have e5:t 5=UK (Ts ⟨b5,0,U8⟩):=h5;have e6:t 6=UK (Ts ⟨b6,0,U8⟩):=h6;have e27:t 27=Tm a n cap:=h27;have e28:t 28=Ti Tl (n:Int):=h28;have e29:t 29=Ti Tl (k:Int):=h29;rw[e0,e2,e5,e6,e27,e28,e29];clear h0 h2 h5 h6 h27 h28 h29 e0 e2 e5 e6 e27 e28 e29;change aaY I base b6 (ce l k) ds wr at hcp;refine P4 hcp (HEW.trans (hcp.choose_spec.choose_spec.2.2.2.1.mono XC)) fun HCI HXW=>?_;clear hcp;have hfw:=Z.out.few;rw[HN.out]at hfw;have hfw1:=hfw.1;by_cases R:k<n
   .obtain⟨r,hr⟩:=ay HN R;obtain⟨b,off,rfl,q0,q1,⟨pa,pc,q2,l1,l2,hps⟩,q3,q4,q5,q6,q7,q8⟩:=HL.out k r hr;replace q0:=ae q0 HXW;replace q1:=ae q1 HXW;replace q2:=ae q2 HXW;replace q3:=ae q3 HXW;replace q4:=ae q4 HXW;replace q5:=ae q5 HXW;replace q6:=ae q6 HXW
    refine P4 hr hps fun HRR HPS0=>have hp8:=hfw.2 r (Uv hr);have HVP:=Tn ((Z.pats (Uv hr)).2);P1 r.pats.length fun np hnp=>have NP:=Tn hnp;?_;rw[hnp]at q2 l1 hp8;unfold VL at l2;have hkc:k<=cap:=Ph;clear hr hps hnp hfw q7 q8;gi_wp2
    refine P1 (wr.alloc (Tq #[UH r.name,U1 r.allow,Tm pa np pc,Ti Tt r.keyMin,Ti Tl r.lifeMax,Ti Tl r.most,Ti Tl r.window] 75)) fun wr1 hwr1=>?_;have hE1:aq wr wr1:=by rw[<-hwr1];exact af P0 _
    have HCI1:=Tn (HCI.ext hE1 T6);rw[hwr1];clear hwr1 q0 q1 q2 q3 q4 q5 q6 hE1;refine wpIn_loop (fun a' wr=>a'.tmps.size=97/\a'.tmps.getD 0 VM=Tm (Ts ⟨b,off,U8⟩) n cap/\a'.tmps.getD 2 VM=UK (Ts ⟨w.heap.size,0,U8⟩)/\a'.tmps.getD 5 VM=UK (Ts ⟨b5,0,U8⟩)/\a'.tmps.getD 6 VM=UK (Ts ⟨b6,0,U8⟩)/\a'.tmps.getD 7 VM=Ti Tl (k:Int)/\a'.tmps.getD 27 VM=Tm (Ts ⟨b,off,U8⟩) n cap/\a'.tmps.getD 28 VM=Ti Tl (n:Int)/\a'.tmps.getD 29 VM=Ti Tl (k:Int)/\a'.tmps.getD 35 VM=Tm pa np pc/\a'.tmps.getD 36 VM=Ti Tl (np:Int)/\∃(j:Nat),j<=np/\a'.tmps.getD 37 VM=Ti Tl (j:Int)/\aaY I base b6 (gk (ce l k) (r.pats.take j) k) a'.defers wr/\(gk (ce l k) (r.pats.take j) k).length<=1+64*k+8*j) (fun a' _=>np-(VS (a'.tmps.getD 37 VM)).toNat) ?atStart ?round
    case atStart=>exact⟨rfl,rfl,rfl,rfl,rfl,rfl,rfl,rfl,rfl,rfl,rfl,0,VF _,rfl,HCI1,by simpa [gk]using hle⟩
    case round=>
     rintro⟨A,ds2⟩wr2⟨hsz,g0,g2,g5,g6,g7,g27,g28,g29,g35,g36,j,hj,g37,hcp,hle⟩;obtain⟨t2,ht2,rfl⟩:=NY A hsz;clear ht2 hsz;have e0:t2 0=Tm (Ts ⟨b,off,U8⟩) n cap:=g0;have e2:t2 2=UK (Ts ⟨w.heap.size,0,U8⟩):=g2;have e5:t2 5=UK (Ts ⟨b5,0,U8⟩):=g5;have e6:t2 6=UK (Ts ⟨b6,0,U8⟩):=g6;have e7:t2 7=Ti Tl (k:Int):=g7;have e27:t2 27=Tm (Ts ⟨b,off,U8⟩) n cap:=g27;have e28:t2 28=Ti Tl (n:Int):=g28;have e29:t2 29=Ti Tl (k:Int):=g29;have e35:t2 35=Tm pa np pc:=g35;have e36:t2 36=Ti Tl (np:Int):=g36;have e37:t2 37=Ti Tl (j:Int):=g37;rw[e0,e2,e5,e6,e7,e27,e28,e29,e35,e36,e37];clear g0 g2 g5 g6 g7 g27 g28 g29 g35 g36 g37 e0 e2 e5 e6 e7 e27 e28 e29 e35 e36 e37;change aaY I base b6 (gk (ce l k) (r.pats.take j) k) ds2 wr2 at hcp;obtain⟨v,kvs,hb6,hno,htr,hbl,hmk⟩:=hcp;refine P9 hb6 hno htr hbl hmk (HEW.trans (hbl.mono XC)) fun HB6 HNO HTR HBL HMK F=>have hszb:=hbl.size;?_;clear hb6 hno htr hbl hmk;by_cases hlj:j<np
     .obtain⟨p,hp⟩:=ay NP hlj;obtain⟨b',off',hpa,d0,hpz⟩:=(HPS0.ext F) j p hp;subst hpa;rw[XT]at d0;refine P4 (aj5 (ns:=ce l k) (i:=(k:Int)) hp) (HVP p (Uv hp)) fun HP HV=>have hpz':p.size<=9223372036854775807:=hpz;have hjc:j<=pc:=Ph;?_;obtain⟨O,hO⟩:∃O:ByteArray,(⟨(if cD p.data.toList then p.data.toList.drop 2 else p.data.toList).toArray⟩:ByteArray)=O:=⟨_,rfl⟩;have hOp:O.data.toList=Mp p:=by rw[<-hO];rfl
      have hOs:O.size<=9223372036854775807:=by
       rw[YW,hOp];have:=(gC.1 (aj2 HV)).1;omega
      refine P3 hO (LD HV hOp) (CN HV) fun HO HLP HSTAR=>?_;clear hp hpz hO hOp;gi_wp2_with (first|(gi_at_call 66;refine(Vn.2 (nY _ _ _ HSTAR)).mono ?_;rintro e w'⟨rfl,rfl⟩;rw[HO.out])|(gi_at_call 67;refine(Vn.2 (C7 _ _)).mono ?_;rintro e w'⟨rfl,rfl⟩))
      refine P1 wr2.heap.size fun bn hbn=>P1 ((wr2.alloc (Tq #[Ti Tl 0] 3)).alloc (Tq #[UH O] 9)) fun V0 hV0=>?_;have M:aq wr2 V0:=by rw[<-hV0];exact af (af P0 _) _
      have hz3:V0.heap.size=bn+2:=by rw[<-hV0,<-hbn];simp
      have hbn0:VX V0 bn 3 (Ti Tl (0:Nat)):=by rw[<-hV0,<-hbn];exact(Wt _ _ _).alloc _
      have hbs:VX V0 (bn+1) 9 (UH O):=by rw[<-hV0,<-hbn];have:=Wt (wr2.alloc (Tq #[Ti Tl 0] 3)) 9 (UH O);rwa[Ud]at this
      rw[hV0,hbn];have hbb:base<=bn:=T6;have hbW:base<=I.heap.size:=T6;have hb6n:b6<bn:=T6;have HW3:=Tn (HW.ext (aa F M));refine P1 (gk (ce l k) (r.pats.take j) k) fun ns0 hns0=>?_;have hI0:ah4 I base b6 bn ns0 (gS O) ds2 0 V0:=by
       refine⟨ns0,0,v,kvs,rfl,aC M HB6,by rw[<-hns0];exact HNO.out.ext M,hbn0,fun q kv N hb=>?_,HBL.trans (M.mono Ph),by rw[<-hbn];exact HMK.out.ext M⟩;obtain⟨y,U⟩:=HNO.out.get N;have:=((HNO.kids q y kv U N).lt bn hb).2;omega
      have HTR0:Hid (∃ps,ew ns0 ps):=by rw[<-hns0];exact HTR
      have hle0:ns0.length<=100000:=by rw[<-hns0];omega
      have hpl:(gS O).length<=8:=by rw[HLP.out];exact(aj6 HV).1
      have HZ3:=Tn hz3;have nC1:¬Cz 73:=Zbl;have nC2:¬Cz 9:=Zbl;have nC3:¬Cz 226:=Zbl;clear hV0 hz3 hbn M;have hz3:=HZ3.out;refine mL (C:=Cz) rfl (Vv func131 Pg rfl) (ww O (bn+1) hOs Cz nC1 nC2 nC3)
       (fun o1 o2=>⟨(hbs.alloc _).alloc _,HW3.ext (af (af P0 _) _)⟩) (fun x=>rfl)
       (fun _=>False) (fun b hb=>hb.elim)
       (fun q V=>ah4 I base b6 bn ns0 (gS O) ds2 q V) (fun _ _ _=>False)
       (fun q A B h cf=>h.st cf hbW Ph hbb) (fun c k A B h _=>h) hI0 ?rgRound ?rgDone (fun c k V _ h _=>h.elim)
      case rgRound=>
       rintro lo q X V hx rfl hV hi;refine P4 hx hi fun HX2 HI=>?_;clear hx hi;unfold ID;gi_wp2
       refine⟨jF.refl _,HI,?_⟩;clear HI;rintro Vb⟨d,m,v',kvs',i1,i2,i3,i4,i5,i6,i7⟩- -;obtain⟨ps0,hps0⟩:=HTR0.out;obtain⟨ps',ht',hn'⟩:=ajY hps0 ((gS O).take q);rw[i1]at ht' hn';simp only at ht' hn';have hnl:m<d.length:=by rw[<-ht'.len];exact(UU.1 hn').1
       have hlen:d.length<=100008:=by
        have:=ajX ((gS O).take q) (ns0,0);unfold oN at i1;rw[i1,List.length_take]at this;simp only at this;omega
       have hstep:oN ns0 ((gS O).take (q+1))=eG (d,m) X:=by
        have h1:=jz HX2 eG (ns0,0);unfold oN at i1⊢;rw[h1,i1]
       obtain⟨g,cap',hv',hg1,hg2,hg3,hg4⟩:=i3.form Xa;subst hv';obtain⟨xn,hxn⟩:=ay (l:=d) (n:=d.length) rfl hnl;obtain⟨na,nc,hnv,hnc1,hnc2,hnods⟩:=i3.nods;cases hnv;refine P8 hstep hxn ht' hn' hg4 hnods (ht'.kidsIn hxn) (ND HV (X:=X) (by rw[<-HLP.out];exact Uv HX2.out)) fun HSTEP HXN HTT HNP HG4 HND HKI HLS=>?_;unfold VL at hg4;have c6:=i2.cell;have f6:=i2.frozen;have cn:=i4.cell;have fn:=i4.frozen;refine P9 i2 i3 i4 i5 i6 i7 fun I2 I3 I4 I5 I6 I7=>?_;clear hstep ht' hn' hps0 i1 i2 i3 i4 i5 i6 i7 hnods;cases N:eT d X xn.kids with
       |some q'=>
        obtain⟨m2,rfl,_,K⟩:=HTT.out.kid_some hxn HNP N;refine P4 N ((HSTEP).trans (Gz hxn N)) fun HKD HS2=>?_;clear hxn N K;gi_wp2_with (gi_at_call 68;refine(Vn.2 (uD d X (Ts ⟨g,0,U8⟩) cap' d.length m xn _ rfl hg3 HG4 HND HXN HKI)).mono ?_;rintro e w3⟨rfl,M⟩;rw[HKD.out];have kn:=aC M I4;have fn3:=kn.frozen;have cn3:=kn.cell;refine P4 kn M fun KN Id=>?_;clear M kn)
        have hF:Fr (fun b=>b=bn) w3 (w3.setCell ⟨bn,0,U8⟩ (Ti Tl (m2:Int))):=Uz _ _ _ rfl;refine⟨(jF.of_ext Id).trans (jF.setCell _ _ _ (mp KN BT)),d,m2,_,kvs',by rw[HS2.out,XU],hF.boxed (aC Id I2) Ph,(I3.ext Id).setInt KN I5 _,KN.set _,I5,(I6.trans (Id.mono (by have:=I6.out.size;omega))).setCell (by simpa using hbb) _,(I7.ext Id).of_eq fun i hi hd=>(Below.heap_setCell _ _ _ _ Pp).trans hd⟩
       |none=>
        refine P4 N ((HSTEP).trans (FX hxn N)) fun HKD HS2=>?_;obtain⟨kv,hkv,_⟩:=I3.out.kv hxn;have HKV:=Tn hkv;have hkl:=HTT.out.kids_le hxn;have h5:=(I6.block b5 Ph).trans HB5;have c50:Vb.cell? ⟨b5,0,U8⟩=Ts (UH ⟨#[]⟩):=T4;have c51:Vb.cell? ⟨b5,1,U8⟩=Ts (Ti Tl (-1)):=T4;have c52:Vb.cell? ⟨b5,2,U8⟩=Ts (Ti Tl (-1)):=T4;have c53:Vb.cell? ⟨b5,3,U8⟩=Ts (zz):=T4;have HC5:=Tn (Xy c50 (Xy c51 (Xy c52 c53)));clear hxn N hkv h5 c50 c51 c52 c53;gi_wp2_with (gi_at_call 68;refine(Vn.2 (uD d X (Ts ⟨g,0,U8⟩) cap' d.length m xn _ rfl hg3 HG4 HND HXN HKI)).mono ?_;rintro e w3⟨rfl,M⟩;rw[HKD.out];obtain⟨z0,z1,z2,z3⟩:=HC5.out;replace z0:=ae z0 M;replace z1:=ae z1 M;replace z2:=ae z2 M;replace z3:=ae z3 M;have kn:=aC M I4;have k6:=aC M I2;have cn3:=kn.cell;have c63:=k6.cell;refine P4 kn M fun KN Id=>?_;clear M kn k6)
        refine P1 (w3.alloc (Tq #[UH X,Ti Tl (-1),Ti Tl (-1),zz] 152)) fun Vc hVc=>?_;have hEc:aq Vb Vc.drew:=by rw[<-hVc];exact aa Id (aa (af P0 _) ((Xg (fun _=>False) _).ext (fun _ _ h=>h)))
        have h17:Vc.heap[w3.heap.size]?=Ts (Tq #[UH X,Ti Tl (-1),Ti Tl (-1),zz] 152 (0,0)):=by rw[<-hVc];exact UZ _ _
        refine P1 w3.heap.size fun b17 hb17=>?_;have hb17n:Vb.heap.size<=b17:=by rw[<-hb17];exact Id.out.size
        rw[hVc,hb17];rw[hb17]at h17;have hEd:aq Vb (Vc.drew.alloc (Tq #[Ti Tl (d.length:Int)] 3)):=af hEc _;have hno1:=I3.out.ext hEd;have hkx:=hno1.kids m xn kv HXN HKV;obtain⟨i1,gi,gz0,gz1,gz2⟩:=WN infoInt;obtain⟨kv',Wq,hrun,hown6,W,_,hat6⟩:=run_append_own_at (P:=UB) (Vc.drew.alloc (Tq #[Ti Tl (d.length:Int)] 3)) base 84 84 3 i1 (Ti Tl 0) 1 8 underlying84 gi gz0 gz1 gz2 rfl Pi kv _ _ hkx ⟨Vc.drew.heap.size,0,U8⟩ 1 1 [Ti Tl (d.length:Int)] rfl (d9 _ _ _) Pu Pr Ph XD;obtain⟨g6,cap6,rfl⟩:=vL hown6;have hr6:=hno1.row.kept W (gR hno1.row hkx Pi);have fz6:Wq.frozen? ⟨g,m*4+3,U8⟩=false:=hr6.frozenAt _;have hz6:(d.zip kvs')[m]?=Ts (xn,kv):=List.getElem?_zip_eq_some.2 ⟨HXN,HKV⟩;have c6q:Wq.cell? ⟨g,m*4+3,U8⟩=Ts kv:=ir hr6 rfl (by rw[fC (f:=EF) (fun _=>rfl) 3 hz6 Pi];rfl);have hFq:=ZG W;have kne6:¬kv.ownBlock=Ts b6:=fun e=>absurd (gr hkx e (aC hEd I2)) Pi;have knen:¬kv.ownBlock=Ts bn:=I5.out m kv HKV;have q6:VX Wq b6 25 _:=hFq.boxed (aC hEd I2) kne6;have qn:VX Wq bn 3 _:=hFq.boxed (aC hEd I4) knen;have hIn:∀w',(w'=Vc.drew\/w'=Vc.drew.alloc (Tq #[Ti Tl (d.length:Int)] 3)\/w'=Wq)->w'.cell? ⟨b6,0,U8⟩=Ts (Tm (Ts ⟨g,0,U8⟩) d.length cap')/\w'.cell? ⟨bn,0,U8⟩=Ts (Ti Tl (m:Int))/\w'.cell? ⟨g,m*4+3,U8⟩=Ts kv:=by
         rintro w'(rfl|rfl|rfl)
         .exact⟨(aC hEc I2).cell,(aC hEc I4).cell,((I3.ext hEc).cells rfl HXN.out HKV).2.2.2⟩
         .exact⟨(aC hEd I2).cell,(aC hEd I4).cell,(hno1.cells rfl HXN.out HKV).2.2.2⟩
         exact⟨q6.cell,qn.cell,c6q⟩
        have H7:=Tn (hno1.kid (g:=g) (cap:=cap') (j:=m) (k:=(d.length:Int)) rfl HXN.out HKV hown6 W hat6);clear hVc hb17 z0 z1 z2 z3 cn3 c63;refine ek (r:=Ts _) Pg Pg (MZ 8 9 12 Vc.drew (Vc.drew.alloc (Tq #[Ti Tl (d.length:Int)] 3)) Wq (Wq.setCell ⟨g,m*4+3,U8⟩ (Tm (Ts ⟨g6,0,U8⟩) (xn.kids.length+1) cap6))) (.inl ⟨fun h=>h,fun h=>h,fun h=>h,rfl⟩) ?_;iterate 8 (refine bd (v:=?_) rfl (fun L w' hS hL hw J=>?_) ?_;rotate_left;(focus(obtain⟨z,G⟩:=eY hS _ hL J Pi Pg;obtain⟨ea,eb,ec⟩:=hIn _ z;unfold ak;go_simp;exact aD G));simp only[Ua,P7])
        refine bd (v:=?_) rfl (fun L w' hS hL hw J=>?_) ?_;rotate_left;(focus(obtain⟨z,G⟩:=ahI hS hL Pi;subst z;unfold ak;go_simp;exact aD G));simp only[Ua,P7]
        refine bd (v:=?_) rfl (fun L w' hS hL hw J=>?_) ?_;rotate_left;(focus(obtain⟨z,G⟩:=ahR hS hL hw Pg Pi;subst z;refine Ap rfl rfl rfl hrun ?_;simp only[VO];exact aD G));simp only[Ua,P7]
        iterate 2 (refine bd (v:=?_) rfl (fun L w' hS hL hw J=>?_) ?_;rotate_left;(focus(obtain⟨z,G⟩:=eY hS _ hL J Pi Pg;obtain⟨ea,eb,ec⟩:=hIn _ z;unfold ak;go_simp;exact aD G));simp only[Ua,P7])
        refine bd (v:=?_) rfl (fun L w' hS hL hw J=>?_) ?_;rotate_left;(focus(obtain⟨z,G⟩:=ahW hS hL hw Pg;subst z;unfold ak;go_simp;exact aD G));simp only[Ua]
        refine iF fun L w' hall hS=>?_;obtain rfl:=ac4 hS hall Pi;clear hS hall;have hfg:∀q,q≠g->(Wq.setCell ⟨g,m*4+3,U8⟩ (Tm (Ts ⟨g6,0,U8⟩) (xn.kids.length+1) cap6)).heap[q]?=Wq.heap[q]? :=fun q N=>Below.heap_setCell _ _ _ _ N;have hrg:CC Cz Wq g:=uI hr6 Bq rfl;have gne6:b6≠g:=fun e=>by rw[<-e]at hr6;exact absurd (gr hr6 rfl q6) Pi
        have gnen:bn≠g:=fun e=>by rw[<-e]at hr6;exact absurd (gr hr6 rfl qn) Pi
        have hKp1:Kp Cz Vb (Wq.setCell ⟨g,m*4+3,U8⟩ (Tm (Ts ⟨g6,0,U8⟩) (xn.kids.length+1) cap6)):=((jF.of_ext hEd).trans (jF.grown hkx BT W)).trans (jF.setCell _ _ _ hrg);have hBl1:Below base Vb (Wq.setCell ⟨g,m*4+3,U8⟩ (Tm (Ts ⟨g6,0,U8⟩) (xn.kids.length+1) cap6)):=((hEd.mono (by have:=I6.out.size;omega)).grown W XD (bE hkx)).setCell (p:=⟨g,m*4+3,U8⟩) (by simpa using hg1) _;have r6:VX (Wq.setCell ⟨g,m*4+3,U8⟩ (Tm (Ts ⟨g6,0,U8⟩) (xn.kids.length+1) cap6)) b6 25 _:=(hfg b6 gne6).trans q6;have rn:VX (Wq.setCell ⟨g,m*4+3,U8⟩ (Tm (Ts ⟨g6,0,U8⟩) (xn.kids.length+1) cap6)) bn 3 _:=(hfg bn gnen).trans qn;have h17d:(Vc.drew.alloc (Tq #[Ti Tl (d.length:Int)] 3)).heap[b17]?=Ts (Tq #[UH X,Ti Tl (-1),Ti Tl (-1),zz] 152 (0,0)):=((af (Fr.ext (Xg (fun _=>False) Vc) (fun _ _ h=>h)) _).block b17 (UE.1 h17).1).trans h17;have r17:(Wq.setCell ⟨g,m*4+3,U8⟩ (Tm (Ts ⟨g6,0,U8⟩) (xn.kids.length+1) cap6)).heap[b17]?=Ts (Tq #[UH X,Ti Tl (-1),Ti Tl (-1),zz] 152 (0,0)):=
         (hfg b17 Ph).trans ((hFq.block b17 (UE.1 h17d).1 (fun e=>absurd (gr hkx e h17d) Pi)).trans h17d)
        have happ:∀(j:Nat)(kv1:UV),(kvs'.set m (Tm (Ts ⟨g6,0,U8⟩) (xn.kids.length+1) cap6))[j]?=Ts kv1->kv1.ownBlock≠Ts bn:=fun j kv1 hj=>by
         by_cases hjm:j=m
         .subst hjm;rw[Vq (UU.1 HKV).1]at hj;cases hj;rcases hat6 with e|e
          .rw[e];exact knen
          rw[e];have:=hEd.size;have:=I4.out.lt;exact Zb8
         rw[Vl (fun e=>hjm e.symm)]at hj;exact I5.out j kv1 hj
        obtain⟨ns7,hns7⟩:∃ns7,(d.modify m fun x=>{x with kids:=x.kids++[(d.length:Int)]})=ns7:=⟨_,rfl⟩;refine P1 (kvs'.set m (Tm (Ts ⟨g6,0,U8⟩) (xn.kids.length+1) cap6)) fun kvs7 hkvs7=>have h7:=H7.out;?_;rw[hns7,hkvs7]at h7;rw[hkvs7]at happ;have hl7:ns7.length=d.length:=by rw[<-hns7];simp
        have hgr:j5 d m X=ns7++[gN X]:=by
         rw[<-hns7];rfl
        rw[hgr]at HS2;refine P1 (Wq.setCell ⟨g,m*4+3,U8⟩ (Tm (Ts ⟨g6,0,U8⟩) (xn.kids.length+1) cap6)) fun Wr hWr=>?_;rw[hWr]at h7 r6 rn r17 hKp1 hBl1⊢;refine PG h7 r6 rn hKp1 hBl1 happ hl7 fun H8 R6 RN HK1 HB1 HAP HL7=>have x6:=r6.cell;have y6:=r6.frozen;have xn':=rn.cell;have w0:Wr.cell? ⟨b17,0,U8⟩=Ts (UH X):=Ss;have w1':Wr.cell? ⟨b17,1,U8⟩=Ts (Ti Tl (-1)):=Ss;have w2':Wr.cell? ⟨b17,2,U8⟩=Ts (Ti Tl (-1)):=Ss;have w3':Wr.cell? ⟨b17,3,U8⟩=Ts (zz):=Ss;?_;clear hWr h7 r6 rn r17 hKp1 hBl1 happ hns7 hkvs7 hl7 hgr H7 h17 h17d hfg hrg gne6 gnen hIn hFq q6 qn hr6 fz6 hz6 c6q hrun hown6 W hat6 hkx hno1 hEd hEc kne6 knen f6 fn c6 cn
        gi_wp2_with (
               gi_at_builtin;refine wpListIn_append_own _ rfl _ _ 25 rfl base 152 i0 (UT #[UH ⟨#[]⟩,Ti Tl 0,Ti Tl 0,zz]) 4 56 underlying25 hi0 hz0 hz1' hz2' rfl Pi _ d.length _ rfl (by have:=H8.out.row.alloc (Tq #[UH X,Ti Tl (-1),Ti Tl (-1),zz] 152);rw[HL7.out]at this;exact this) ⟨Wr.heap.size,0,U8⟩ 1 1 [UH X,Ti Tl (-1),Ti Tl (-1),zz] rfl rfl (vT _ _ _ _ _ _) Pu Pr Ph (by have:=HB1.out.size;have:=I6.out.size;simp;omega) ?_
               intro v8 w8 hown8 hgrow8 _
               obtain⟨g8,cap8,rfl⟩:=vL hown8
               have hEa:aq Wr (Wr.alloc (Tq #[UH X,Ti Tl (-1),Ti Tl (-1),zz] 152)):=af P0 _
               have ha8:=H8.out.ext hEa
               have h8:=ha8.push HLS (by rw[HL7.out];exact hown8) hgrow8
               have hF8:=ZG hgrow8
               have hrow8:=ha8.row
               have p6:VX w8 b6 25 _:=hF8.boxed (aC hEa R6) (fun e=>absurd (gr hrow8 e (aC hEa R6)) Pi)
               have pn:VX w8 bn 3 _:=hF8.boxed (aC hEa RN) (fun e=>absurd (gr hrow8 e (aC hEa RN)) Pi)
               have hk8:Kp Cz Vb w8:=(HK1.trans (jF.of_ext hEa)).trans (jF.grown hrow8 Bq hgrow8)
               have hb8:Below base Vb w8:=(HB1.trans (hEa.mono (by have:=HB1.out.size;have:=I6.out.size;omega))).grown hgrow8 (by have:=HB1.out.size;have:=I6.out.size;have:=hEa.size;omega) (bE hrow8)
               have e8:=p6.cell;have f8:=p6.frozen;have en8:=pn.cell;have fn8:=pn.frozen
               refine PC h8 p6 pn hk8 hb8 fun H9 P6 PN HK8 HB8=>?_
               clear hown8 hgrow8 hEa ha8 h8 hF8 hrow8 p6 pn hk8 hb8)
        have hFb:Fr (fun b=>b=b6) w8 (w8.setCell ⟨b6,0,U8⟩ (Tm (Ts ⟨g8,0,U8⟩) (d.length+1) cap8)):=Uz _ _ _ rfl;have hFn:Fr (fun b=>b=bn) (w8.setCell ⟨b6,0,U8⟩ (Tm (Ts ⟨g8,0,U8⟩) (d.length+1) cap8)) ((w8.setCell ⟨b6,0,U8⟩ (Tm (Ts ⟨g8,0,U8⟩) (d.length+1) cap8)).setCell ⟨bn,0,U8⟩ (Ti Tl (d.length:Int))):=Uz _ _ _ rfl;have pn2:=hFb.boxed PN Ph;have hap9:∀(j:Nat)(kv1:UV),(kvs7++[zz])[j]?=Ts kv1->kv1.ownBlock≠Ts bn:=fun j kv1 hj=>by
         by_cases hjl:j<kvs7.length
         .rw[X9 hjl]at hj;exact HAP.out j kv1 hj
         rw[WH Ph]at hj;obtain⟨-,rfl⟩:(j-kvs7.length=0/\zz=kv1):=by
          cases hjj:j-kvs7.length with
          |zero=>rw[hjj]at hj;simp at hj;exact⟨rfl,hj⟩
          |succ q=>rw[hjj]at hj;simp at hj
         simp[Vt]
        have hKz:=(HK8.trans (jF.setCell _ ⟨b6,0,U8⟩ (Tm (Ts ⟨g8,0,U8⟩) (d.length+1) cap8) (mp P6 IC))).trans (jF.setCell _ ⟨bn,0,U8⟩ (Ti Tl (d.length:Int)) (mp pn2 BT));refine⟨hKz,ns7++[gN X],d.length,_,kvs7++[zz],HS2,hFn.boxed (P6.set _) Ph,(H9.setBox P6 _).setInt pn2 hap9 _,pn2.set _,hap9,I6.trans ((HB8.setCell (p:=⟨b6,0,U8⟩) Pp _).setCell (p:=⟨bn,0,U8⟩) (by simpa using hbb) _),I7.kp hKz⟩
      rintro V⟨d,m,v',kvs',i1,i2,i3,i4,i5,i6,i7⟩H;rw[VD (UY _)]at i1;obtain⟨ps0,hps0⟩:=HTR0.out;obtain⟨ps',ht',hn'⟩:=ajY hps0 (gS O);rw[i1]at ht' hn';simp only at ht' hn';have hnl:m<d.length:=by rw[<-ht'.len];exact(UU.1 hn').1
      have hlen:d.length<=100008:=by
       have:=ajX (gS O) (ns0,0);unfold oN at i1;rw[i1]at this;simp only at this;omega
      obtain⟨g,cap',hv',hg1,hg2,hg3,hg4⟩:=i3.form Xa;subst hv';obtain⟨xn,hxn⟩:=ay (l:=d) (n:=d.length) rfl hnl;obtain⟨kv,hkv,_⟩:=i3.kv hxn;obtain⟨c0,c1,c2,c3⟩:=i3.cells rfl hxn hkv;have fz1:=i3.row.frozenAt (m*4+1);have fz2:=i3.row.frozenAt (m*4+2);have hrow:=i3.row;have c6:=i2.cell;have cn:=i4.cell;unfold VL at hg4;have gne6:b6≠g:=fun e=>by rw[<-e]at hrow;exact absurd (gr hrow rfl i2) Pi
      have E:∀(wide:Bool),aP (V.setCell ⟨g,m*4+(if wide then 2 else 1),U8⟩ (Ti Tl (k:Int))) base (Tm (Ts ⟨g,0,U8⟩) d.length cap') (nG d m wide k) kvs':=fun wide=>i3.set rfl hxn wide k;have hput:cD p.data.toList=true->sK ns0 p k=nG d m true k:=fun h=>by unfold sK;rw[<-HLP.out,i1,h]
      have hput2:cD p.data.toList=false->sK ns0 p k=nG d m false k:=fun h=>by unfold sK;rw[<-HLP.out,i1,h]
      have hkp:∀(q:Nat)(u:UV),Kp Cz V (V.setCell ⟨g,q,U8⟩ u):=fun q u=>jF.setCell _ _ _ (uI hrow Bq rfl);have hfin:∀(q:Nat)(u:UV)(ns2:List Dv),sK ns0 p k=ns2->aP (V.setCell ⟨g,q,U8⟩ u) base (Tm (Ts ⟨g,0,U8⟩) d.length cap') ns2 kvs'->aaY I base b6 (gk (ce l k) (r.pats.take (j+1)) k) ({target:= .collected V0.heap.size,args:=#[]}::ds2) (V.setCell ⟨g,q,U8⟩ u):=fun q u ns2 hp2 hn2=>by
       refine⟨_,kvs',(Below.heap_setCell _ _ _ _ gne6).trans i2,by rw[HP.out,hns0,hp2];exact hn2,by rw[HP.out,hns0];exact akA HTR0 _ _,i6.setCell (by simpa using hg1) _,V0.heap.size,rfl,?_,Ph,(hkp q u).obj H (fun _ _ _ e=>RH) (fun h=>h),(i7.kp (hkp q u)).le Ph⟩;have:=(UE.1 H).1;simpa [XY]using this
      have hlen2:(gk (ce l k) (r.pats.take (j+1)) k).length<=1+64*k+8*(j+1):=by
       rw[HP.out];have:=akC (ns:=gk (ce l k) (r.pats.take j) k) HV (k:Int);omega
      refine PC E hput hput2 hfin hlen2 fun HSET HPUT HPUT2 HFIN HLEN2=>?_;clear E hput hput2 hkp hfin hlen2 i1 i2 i3 i4 i5 i6 i7 H ht' hn' hps0 hxn hkv hrow c0 c3;cases hst:cD p.data.toList
      .have HST:=Tn hst;clear hst;gi_wp2
       refine⟨⟨rfl,rfl,rfl,rfl,rfl,rfl,rfl,rfl,rfl,rfl,rfl,j+1,Ph,Zbm,HFIN _ _ _ (HPUT2 HST) (HSET false),HLEN2⟩,?_⟩;simp[VS];omega
      have HST:=Tn hst;clear hst;gi_wp2
      refine⟨⟨rfl,rfl,rfl,rfl,rfl,rfl,rfl,rfl,rfl,rfl,rfl,j+1,Ph,Zbm,HFIN _ _ _ (HPUT HST) (HSET true),HLEN2⟩,?_⟩;simp[VS];omega
     obtain rfl:j=np:=by omega
     have HP:=Tn (show gk (ce l k) (r.pats.take j) k=ce l (k+1) by rw[aj7 HRR.out,VD SJ]);have hCC:aaY I base b6 (ce l (k+1)) ds2 wr2:=by rw[<-HP.out];exact⟨v,kvs,HB6,HNO,HTR,HBL,HMK⟩
     have hL1:(ce l (k+1)).length<=1+64*(k+1):=by rw[<-HP.out];omega
     refine P4 hCC hL1 fun HCC HL1=>?_;clear hCC hL1;gi_wp2
     refine⟨⟨rfl,rfl,rfl,rfl,rfl,rfl,rfl,k+1,Ph,Zbm,HCC,HL1⟩,?_⟩;simp[VS];omega
   obtain rfl:k=n:=by omega
   obtain⟨v,kvs,hb6,hno,htr,hbl,hmk⟩:=HCI.out;have hT:ce l k=lu l:=by rw[HC.out.2];unfold ef;rw[HN.out]
   obtain⟨xs,g1,g2,g3,g4,g5⟩:=MM HN HL;have hbt:fE wr w.heap.size (zz) (zz):=(hbl.block w.heap.size Ph).trans HBT;refine P5 g1 g3 g4 g5 fun G1 G3 G4 G5=>have hdr:aq wr wr.drew:=(Xg (fun _=>False) _).ext (fun _ _ h=>h);have G2:Hid (∀p,a=Ts p->∀(j:Nat)(u:UV),xs[j]?=Ts u->wr.drew.cell? (p.add j)=Ts u):=Tn fun p hp j u hu=>((aa HXW hdr).cell (aR (g2 p hp j u hu))).trans (g2 p hp j u hu);have x6:=hb6.cell;PG hT hno hbl hmk hbt hb6 hdr fun HT HNO HBL HMK HB H6 HDR=>have hwz:w.heap.size<wr.heap.size:=hbt.lt;?_;clear hT g1 g2 g3 g4 g5 hb6 hno htr hbl hmk hbt hdr;obtain⟨na,nc,hv,hnc1,hnc2,hnods⟩:=HNO.out.nods;subst hv;clear hnods;gi_wp2
   refine wpIn_mono (Q:=fun e a' w'=>match e with
    | .normal=>a'.tmps.size=97/\a'.tmps.getD 2 VM=UK (Ts ⟨w.heap.size,0,U8⟩)/\a'.tmps.getD 3 VM=Ti Tl 0/\a'.defers=ds/\∃(w3:UN)(a3:Option VW)(c3:Nat),aq wr w3/\w3.ownsRow wr.heap.size 75 7 (Tm a3 k c3) k xs/\w'=(w3.setCell ⟨w.heap.size,0,U8⟩ (Tm a3 k c3)).setCell ⟨w.heap.size,1,U8⟩ (Tm na (ce l k).length nc)
    |_=>False) ?rgn ?rest
   case rgn=>
    gi_region_with (
            gi_at_call 69
            refine(Vn.2 (Gr xs a cap k wr.drew HCM G1 G2 G3 G4 Ph)).mono ?_
            rintro e w3⟨v3,rfl,hown3,M⟩
            obtain⟨a3,c3,rfl⟩:=y7 hown3
            have hE4:=aa HDR M
            have y6:=aC hE4 H6
            have yb:=HB.out.ext hE4
            have z6:=y6.cell
            obtain⟨q0,q1⟩:=yb.cells
            have fz0:=yb.frozen 0
            have fz1:=yb.frozen 1
            refine P4 hown3 hE4 fun HO3 HE4=>?_
            clear hown3 M hE4 y6 yb)
    all_goals exact⟨rfl,rfl,rfl,rfl,w3,a3,c3,HE4,HO3,rfl⟩
   intro e a' w' h;cases e with
   |exit id=>exact h.elim
   |goto t=>exact h.elim
   |ret=>exact h.elim
   |panic ch=>exact h.elim
   |outgrown=>exact h.elim
   |normal=>
    obtain⟨A,ds'⟩:=a';obtain⟨hsz,h2,h3,hd,w3,a3,c3,hE,hown,rfl⟩:=h;obtain⟨t',ht',rfl⟩:=NY A hsz;have hd':ds'=ds:=hd;subst hd';have e2:t' 2=UK (Ts ⟨w.heap.size,0,U8⟩):=h2;have e3:t' 3=Ti Tl 0:=h3;rw[e2,e3];refine PI w3 w.heap.size (Tm a3 k c3) (Tm na (ce l k).length nc) fun W4 hW4=>?_;have hb4:fE W4 w.heap.size (Tm a3 k c3) (Tm na (ce l k).length nc):=by rw[<-hW4];exact((HB.ext hE).set0 _).set1 _
    have hx4:aq w W4:=by rw[<-hW4];exact((aa HXW hE).setCell (p:=⟨w.heap.size,0,U8⟩) (UY _) _).setCell (p:=⟨w.heap.size,1,U8⟩) (UY _) _
    have hF4:Fr (fun b=>b=w.heap.size) w3 W4:=by rw[<-hW4];exact(Uz (S:=fun b=>b=w.heap.size) _ _ _ rfl).trans (Uz _ _ _ rfl)
    have hn4:aP W4 base (Tm na (ce l k).length nc) (ce l k) kvs:=(HNO.ext hE).fr hF4 fun g hg _ e=>Ph;have ho4:W4.ownsRow wr.heap.size 75 7 (Tm a3 k c3) k xs:=eM hown hF4 fun g hg e=>by have:=bE hown g hg;omega
    have hm4:gT base W4 wr.heap.size ds':=(HMK.ext hE).of_eq fun q _ N=>(hF4.block q (UE.1 N).1 (fun e=>by
     subst e;have ht:=HB.out.ext hE;unfold fE at ht;rw[ht]at N
     cases N)).trans N
    rw[hW4];clear ht' h2 h3 e2 e3 hsz hW4 hown hF4 hE;refine PC hb4 hx4 hn4 ho4 hm4 fun HB4 HX4 HN4 HO4 HM4=>?_;clear hb4 hx4 hn4 ho4 hm4;gi_wp2
    refine Db (n0:=base) (v:=UW #[UT #[Tm a3 k c3,Tm na (ce l k).length nc],Ti Tl 0]) ds' wr.heap.size W4 HM4 fun W' s1 s2 s3 s4 s5 s6=>have hb':fE W' w.heap.size (Tm a3 k c3) (Tm na (ce l k).length nc):=s6 _ _ _ _ HB4;?_;obtain⟨q0,q1⟩:=hb'.cells;have hx':aq w W':=⟨s2.trans HX4.os,s3.trans HX4.tape,s4.trans HX4.output,by rw[s1];exact HX4.out.size,fun i hi=>(s5 i Ph).trans (HX4.block i hi)⟩;refine⟨X7,?_⟩;rw[HX.out,H0.out,HC.out.1,<-HT.out];refine⟨_,_,rfl,G5 W' _ _ hx' (j8 HO4 (sY HO4 s6)),?_,hx'⟩;have hn':aP W' base (Tm na (ce l k).length nc) (ce l k) kvs:=HN4.out.keep (sY HN4.row s6) fun j kv g o hg=>by
     obtain⟨y,U⟩:=HN4.out.get o;exact sY (HN4.kids j y kv U o) s6 g hg
    exact hn'.nods
 have t0:(x !=0)=true:=by simpa using h0
 have HC:=Tn (show t7 l=[]/\lu l=[]from⟨by unfold t7;rw[if_neg (by rw[HX.out];exact h0)],by unfold lu;rw[if_neg (by rw[HX.out];exact h0)]⟩);clear h0
 gi_wp2_with (first
  |(
    gi_at_call 65;refine(Vn.2 (vj l a cap n _ HN HNC HCM (HL.ext HE0) HFE HPF)).mono ?_;rintro e w1⟨rfl,hE1⟩;rw[HX.out]
    have hb:=B0.out.ext hE1;obtain⟨q0,q1⟩:=hb.cells;have fz0:=hb.frozen 0;have fz1:=hb.frozen 1
    refine P4 hb hE1 fun HB s=>?_;clear hE1 hb))
 refine PI w1 w.heap.size (zz) (zz) fun W4 hW4=>?_;have hb4:fE W4 w.heap.size (zz) (zz):=by rw[<-hW4];exact(HB.set0 _).set1 _
 have hx4:aq w W4:=by rw[<-hW4];exact((aa HE0 s).setCell (p:=⟨w.heap.size,0,U8⟩) (UY _) _).setCell (p:=⟨w.heap.size,1,U8⟩) (UY _) _
 obtain⟨q0,q1⟩:=hb4.cells;rw[hW4];refine⟨UW #[UT #[zz,zz],Ti Tl x],X7,?_⟩;rw[HX.out,HC.out.1,HC.out.2];exact BH hx4
end
section
open Go.Maps
def DC(rs ns):(if(bL rs==0&& !decide (lu rs=ns))then 1 else bL rs)=kh rs ns:=by
 unfold kh lu;by_cases h:bL rs=0
 .simp only[h,if_true,beq_self_eq_true,Wo];by_cases c:ef rs=ns
  .simp[c]
  simp[c]
 simp[h]
def qx(rs:List b7)(ns:List Dv)(a b cap n c m w)(hn:rs.length=n)(C:n<=cap)(u:cap<=VL)(p:qz w a rs)(j:n<=1000)(A:∀r∈rs,r.pats.length<=1000)(K:ns.length=m)(t:m<=c)(H:c<=VL)(J:ut w b ns)(hw:xB w):
  VB UB 124 #[UT #[Tm a n cap,Tm b m c]] w (bM (Ti Tl (kh rs ns)) w):=by
 refine PH hn C u p j A K t H J fun HN R O HL Z X HM T V M=>have HW:=Tn hw;P1 (bL rs) fun x hx=>have HX:=Tn hx;?_;clear hx;refine P1 (w.alloc (Tq #[Tm a n cap,Tm b m c] 27)) fun f d=>have y:aq w f:=Pq;?_;have o:fE f w.heap.size (Tm a n cap) (Tm b m c):=by rw[<-d];exact fE.new _ _ _
 refine P3 d y o fun S B U=>?_;obtain⟨k0,k1⟩:=o.cells;clear d;go_enter func124,ntmps124;go_upto_region 1 with fail;rw[S.out];go_upto_region 2 with(go_at_call 19;refine(tm rs a cap n _ HN R O (HL.ext B) Z X (HW.ext B)).mono ?_;rintro e L⟨rv,nv,rfl,⟨ra,rc,rfl,_,_,_⟩,⟨na,nc,rfl,q1,q2,g⟩,q⟩;rw[HX.out];refine P5 g q1 q2 q fun Q Q1 Q2 s=>?_)
 refine P1 (L.alloc (Tq #[Tm ra (t7 rs).length rc,Tm na (lu rs).length nc] 27)) fun I Y=>have D:aq L I:=QQ;?_;have E:fE I L.heap.size (Tm ra (t7 rs).length rc) (Tm na (lu rs).length nc):=by rw[<-Y];exact fE.new _ _ _
 obtain⟨p0,p1⟩:=E.cells;obtain⟨r0,r1⟩:=(U.ext (aa s D)).cells;have F:=Tn D;rw[Y];clear Y;refine aG (fun G=>aq I G) P0 ?_;repeat
  (first|refine az rfl rfl rfl rfl ?_|refine aF rfl rfl rfl rfl ?_|refine aw rfl ?_|refine aj rfl rfl rfl rfl rfl ?_|((first|refine av (v:=?_) rfl rfl (fun hb G l=>?_) ?_|refine ar (v:=?_) rfl rfl rfl (fun hb1 hb G l=>?_) ?_|refine ax (v:=?_) rfl (fun G l=>?_) ?_);rotate_left;(focus(have e0:=ae p1 l;have am:=ae r1 l;unfold ak;go_simp;first|exact aD l|(refine(EA (lu rs) ns na b nc _ c m _ rfl HM.out Q1 T Q2 V ((Q.ext F).ext l) ((M.ext (aa B (aa s F))).ext l)).mono ?_;rintro e w''⟨rfl,h2⟩;exact aH (aa l h2))))))
  simp only[Ua,P7]
 refine aA fun G P=>have HB:Hid ((if(x==0&& !decide (lu rs=ns))then 1 else x)=kh rs ns):=Tn (by rw[<-HX.out];exact DC rs ns);have z:=aa B (aa s (aa F P));?_;cases N:(x==0&& !decide (lu rs=ns))
 .have W:=Tn (show x=kh rs ns from XL);go_wp2;go_ret;exact⟨eu W,z⟩
 have W:=Tn (show 1=kh rs ns from XL);go_wp2;go_ret;exact⟨eu W,z⟩
def GD(c d:UV)(w:UN):
  VB UB 127 #[UT #[c,d]] w fun e b=>
   e=UO (.func (.func 191) #[] #[UK (Ts ⟨w.heap.size,0,U8⟩)])/\b=w.alloc (Tq #[c,d] 27):=by
 go_enter func127,ntmps127;exact U7
def Ff{rs ns}(h:kh rs ns=0):bL rs=0/\ef rs=ns:=by
 unfold kh at h;by_cases L:bL rs=0
 .rw[if_pos L]at h;by_cases h1:ef rs=ns
  .exact⟨L,h1⟩
  rw[if_neg h1]at h;cases h
 rw[if_neg L]at h;exact absurd h L
def Oo(h:gX s.data.toList=true):gS s=jj s.data.toList:=by unfold gS jj;rw[if_pos h]
def tf(l:List b7)(ns:List Dv)(v:yZ)(a b cap n c mn J I w)(hn:l.length=n)(hnc:n<=cap)(hcm:cap<=VL)(hl:qz w a l)(T:n<=1000)(hpf:∀r∈l,r.pats.length<=1000)(hmn:ns.length=mn)(hmc:mn<=c)(hmm:c<=VL)(hns:ut w b ns)(hvc:v.names.length<=I)(hvm:I<=VL)(hv:js w J v.names)(hvs:∀s∈v.names,s.size<=9223372036854775807)(hw:xB w):
  VB UB 64 #[UT #[Tm a n cap,Tm b mn c],xZ v J I] w (aeR (fH l ns v) w):=by
 refine PH hn hnc hcm hl T hpf hvc hvm hv hw fun HN O N HL ab U ad W HV HW=>PC hmn hmc hmm hns hvs fun E P Q M HVS=>P1 v.names.length fun m K=>have HM:=Tn K;have ac:Hid (UT #[Ti Tl v.account,Tm J m I,Ti Tt v.key,Ti Tl v.life]=xZ v J I):=Tn (by unfold xZ;rw[K]);P1 (kh l ns) fun x hx=>have HX:=Tn hx;?_;unfold xZ;rw[K];go_enter func64,ntmps64;go_upto_region 1 with fail;refine P1 (((w.alloc (Tq #[Tm a n cap,Tm b mn c] 27)).alloc (Tq #[Ti Tl v.account,Tm J m I,Ti Tt v.key,Ti Tl v.life] 149)).alloc (Tq #[U1 false,Ti Tl 0,zz] 145)) fun f d=>?_;have hE0:aq w f:=by rw[<-d];exact af (af (af P0 _) _) _
 have t0:f.cell? ⟨w.heap.size,0,U8⟩=Ts (Tm a n cap):=Pw;have t1:f.cell? ⟨w.heap.size,1,U8⟩=Ts (Tm b mn c):=Pw;have c0:f.cell? ⟨w.heap.size+1,0,U8⟩=Ts (Ti Tl v.account):=Pw;have c1:f.cell? ⟨w.heap.size+1,1,U8⟩=Ts (Tm J m I):=Pw;have c2:f.cell? ⟨w.heap.size+1,2,U8⟩=Ts (Ti Tt v.key):=Pw;have c3:f.cell? ⟨w.heap.size+1,3,U8⟩=Ts (Ti Tl v.life):=Pw;have b1:fm f (w.heap.size+1+1) false 0 (zz):=by
  rw[<-d];have:=fm.new ((w.alloc (Tq #[Tm a n cap,Tm b mn c] 27)).alloc (Tq #[Ti Tl v.account,Tm J m I,Ti Tt v.key,Ti Tl v.life] 149)) false 0 (zz);rwa[Ud,Ud]at this
 refine PJ (show f.heap.size=w.heap.size+3 from Zbf) hE0 c0 c1 c2 c3 b1 t0 t1 fun HZ B C0 C1 C2 C3 B1 T0 T1=>?_;rw[d];by_cases L:x=0
 .have tz:(x !=0)=false:=by simpa using L
  have H0:=Tn (HX.trans L);cases C:lU v
  .have Z:=Tn (show fH l ns v=(CP,1) by unfold fH;rw[if_pos H0.out,C];rfl);have y:=Tn C
   go_wp2_with (first
    |(
      go_at_call 124;refine P2 (qx l ns a b cap n c mn _ HN O N (HL.ext B) ab U E P Q (M.ext B) (HW.ext B)) fun w1 q=>?_;rw[HX.out];have k0:=ae C0 q;have k1:=ae C1 q;have k2:=ae C2 q;have k3:=ae C3 q
      have t:=Tn q)
    |(
      go_at_call 125;rw[ac.out];refine P2 (Je v J I _ ad W (HV.ext (aa B t))) fun R D=>?_;rw[y.out];have hb:=B1.out.ext (aa t D);have fz0:=hb.frozen 0;have fz1:=hb.frozen 1;have fz2:=hb.frozen 2;obtain⟨e0,am,e2⟩:=hb.cells
      refine P4 hb (aa B (aa t D)) fun HB F=>?_))
   refine PF R (w.heap.size+1+1) (U1 false) (Ti Tl 0) (zz) fun u o=>have H:fm u (w.heap.size+1+1) false 0 (zz):=RZ;?_;have G:aq w u:=by rw[<-o];exact((F.setCell (p:=⟨w.heap.size+1+1,0,U8⟩) Pp _).setCell (p:=⟨w.heap.size+1+1,1,U8⟩) Pp _).setCell (p:=⟨w.heap.size+1+1,2,U8⟩) Pp _
   obtain⟨q0,q1,q2⟩:=H.cells;rw[o];refine VC (v:=UW #[UT #[U1 false,Ti Tl 0,zz],Ti Tl 1]) Qw rfl ?_;rw[Z.out];exact wW G
  have Z:=Tn (show fH l ns v=(cJ l v (mg ns),0) by unfold fH;rw[if_pos H0.out,C];rfl);have y:=Tn C;obtain⟨hr0,X⟩:=Ff H0;have Y:=xh.1 hr0;obtain⟨ps,hps,_⟩:=Ah Y l.length (UY _);have A:ew ns ps:=by rw[<-X];exact hps
  have HK:=Tn (show∀(j:Nat)(x:Dv),ns[j]?=Ts x->Aw ns x.kids from fun j x hx=>A.kidsIn hx);have h0m:0<mn:=by
   have h1:=A.len;have h2:=(UU.1 A.root).1;rw[h1,E.out]at h2;exact h2
  have HDEC:=Tn (show∀s∈v.names,mg ns s=-1\/∃i:Nat,i<n/\mg ns s=i from fun s z=>by
   rw[<-X,adN Y (sF y s z),<-HN.out]
   exact F4 (sF y s z))
  have HGO:=Tn (show∀s∈v.names,Bu ns (gS s) 0 (-1)=mg ns s from fun s z=>by unfold mg;rw[Oo (sF y s z)])
  go_wp2_with (first
   |(
     go_at_call 124;refine P2 (qx l ns a b cap n c mn _ HN O N (HL.ext B) ab U E P Q (M.ext B) (HW.ext B)) fun w1 q=>?_;rw[HX.out];have k0:=ae C0 q;have k1:=ae C1 q;have k2:=ae C2 q;have k3:=ae C3 q
     have t:=Tn q)
   |(
     go_at_call 125;rw[ac.out];refine P2 (Je v J I _ ad W (HV.ext (aa B t))) fun R D=>?_;rw[y.out];have m0:=ae k0 D;have m1:=ae k1 D;have m2:=ae k2 D;have m3:=ae k3 D;have u0:=ae T0 (aa t D);have u1:=ae T1 (aa t D)
     have F:=Tn (aa t D)))
  have hlen:=aaZ y;rw[HM.out]at hlen;refine P4 u0 u1 fun HU0 HU1=>?_
  go_region_with (first
    |(
      go_at_call 127;refine P2 (GD _ _ _) fun w3 ah=>?_;have V:aq R w3:=by rw[ah];exact aa ((Xg (fun _=>False) R).ext (fun _ _ h=>h)) (af P0 _)
      have p0:=ae m0 V;have p1:=ae m1 V;have p2:=ae m2 V;have p3:=ae m3 V;have v0:=ae HU0 V;have v1:=ae HU1 V;have HTB:Hid (fE w3 R.drew.heap.size (Tm a n cap) (Tm b mn c)):=Tn (by rw[ah];exact fE.new R.drew (Tm a n cap) (Tm b mn c));have Id:=Tn (aa F V)
      clear V ah)
    |(
      go_at_call 126;rw[ac.out]
      refine(BM l v (mg ns) 191 #[UK (Ts ⟨R.drew.heap.size,0,U8⟩)] a cap n J I _ HN O N (HL.ext (aa B Id)) ad W (HV.ext (aa B Id)) (by rw[HM.out];omega) (Vv func191 Pg rfl)
       (fun s z w' g=>by
        have h1:=DG ns s b c mn R.drew.heap.size (Tm a n cap) w' E P Q ((M.ext (aa B Id)).ext g) HK h0m (HVS s z) (HTB.ext g) (((HW.ext B).ext Id.out).ext g);rw[HGO.out s z]at h1
        exact h1) HDEC).mono ?_
      rintro e w4⟨ra,rc,rfl,r1,r2,r3,r4,h4⟩;unfold agU;have hb:=B1.out.ext (aa Id h4);have fz0:=hb.frozen 0;have fz1:=hb.frozen 1;have fz2:=hb.frozen 2;obtain⟨e0,am,e2⟩:=hb.cells;refine P9 hb (aa B (aa Id h4)) r1 r2 r3 (show∀p,ra=Ts p->w.heap.size+3<=p.block from fun p hp=>by have q1:=r4 p hp;have q2:=Id.out.size;have q3:=HZ.out;omega) fun HB HE4 R1 R2 R3 R4=>?_
      clear hb h4 r1 r2 r3 r4))
  all_goals
   go_wp2_with fail
   refine PF w4 (w.heap.size+1+1) (U1 (cJ l v (mg ns)).allow) (Ti Tl (cJ l v (mg ns)).at') (Tm ra (cJ l v (mg ns)).by'.length rc) fun u o=>?_
   have H:fm u (w.heap.size+1+1) (cJ l v (mg ns)).allow (cJ l v (mg ns)).at' (Tm ra (cJ l v (mg ns)).by'.length rc):=RZ
   have G:aq w u:=by rw[<-o];exact((HE4.setCell (p:=⟨w.heap.size+1+1,0,U8⟩) Pp _).setCell (p:=⟨w.heap.size+1+1,1,U8⟩) Pp _).setCell (p:=⟨w.heap.size+1+1,2,U8⟩) Pp _
   have hi4:rx u ra (cJ l v (mg ns)).by':=by
    rw[<-o];exact acG R3 (((Uz (S:=fun b=>b=w.heap.size+1+1) _ _ _ rfl).trans (Uz _ _ _ rfl)).trans (Uz _ _ _ rfl)) fun p hp hb=>by have:=R4.out p hp;omega
   obtain⟨q0,q1,q2⟩:=H.cells
   rw[o]
   refine VC (v:=UW #[UT #[U1 (cJ l v (mg ns)).allow,Ti Tl (cJ l v (mg ns)).at',Tm ra (cJ l v (mg ns)).by'.length rc],Ti Tl 0]) Qw rfl ?_
   rw[Z.out]
   exact⟨ra,rc,rfl,R1,R2,hi4,fun p hp=>by have:=R4.out p hp;omega,G⟩
 have tz:(x !=0)=true:=by simpa using L
 have Z:=Tn (show fH l ns v=(CP,x) by unfold fH;rw[if_neg (by rw[HX.out];exact L),HX.out])
 go_wp2_with (first
  |(
    go_at_call 124;refine P2 (qx l ns a b cap n c mn _ HN O N (HL.ext B) ab U E P Q (M.ext B) (HW.ext B)) fun w1 q=>?_;rw[HX.out];have hb:=B1.out.ext q;have fz0:=hb.frozen 0;have fz1:=hb.frozen 1;have fz2:=hb.frozen 2;obtain⟨e0,am,e2⟩:=hb.cells
    refine P4 hb (aa B q) fun HB t=>?_))
 refine PF w1 (w.heap.size+1+1) (U1 false) (Ti Tl 0) (zz) fun u o=>have H:fm u (w.heap.size+1+1) false 0 (zz):=RZ;?_;have G:aq w u:=by rw[<-o];exact((t.setCell (p:=⟨w.heap.size+1+1,0,U8⟩) Pp _).setCell (p:=⟨w.heap.size+1+1,1,U8⟩) Pp _).setCell (p:=⟨w.heap.size+1+1,2,U8⟩) Pp _
 obtain⟨q0,q1,q2⟩:=H.cells;rw[o];refine VC (v:=UW #[UT #[U1 false,Ti Tl 0,zz],Ti Tl x]) Qw rfl ?_;rw[Z.out];exact wW G
end
section
open Go.ChangeShapes Go.WideShapes Go.Deep
def yo{H:Type}(enc:WR×UV->H)(P:Wn)(w:UN)(t:WR)(cs:List UV):Prop:=
 ∃fuel x,Yg enc P w 0 (fun _=>true) true fuel t cs=Ts x
section
variable {H:Type} {enc:WR×UV->H} {P:Wn} {w:UN} {t e:WR} {cs:List UV}
def yo.of_trod{v}{d:DataW H}{p:List MemPlace}(h:DataW.Trod enc P w 0 (fun _=>true) true t v d p):yo enc P w t v.cells.toList:=by
 obtain⟨f,h⟩:=h;exact⟨f,_,h⟩
def yo.at{d:Array Field}(h:yo enc P w t cs)(q:P.underlying t=Ts (.struct d))(i:Nat)(T o m)(cf:(d[i]?).map (fun f=>(f.type,f.offset))=Ts (T,o))(J:P.cellsOf T=m):
  yo enc P w T ((cs.drop o).take m):=by
 obtain⟨f,x,h⟩:=h;obtain⟨l,n,_,_,p,r,S⟩:=DataW.trod_struct q h;cases b:d[i]? with
 |none=>rw[b]at cf;cases cf
 |some g=>
  rw[b]at cf;have j:=S i g b;have h1:=Vm cf;simp only[Prod.mk.injEq]at h1;obtain⟨c,A⟩:=h1;rw[c,A,J]at j;have hi:i<l.length:=by rw[r];exact(UE.1 b).1
  rw[V8 hi]at j;exact⟨n,_,j⟩
def yo.int{k}(h:yo enc P w t cs)(b:P.underlying t=Ts (.int k)):∃n,cs=[.int k n]/\(Lit.int k n).wf=true:=by
 obtain⟨f,x,h⟩:=h;cases f with
 |zero=>simp[Yg]at h
 |succ n=>
  exact Uf
def Jb{α:Type}{p:Nat->α->Prop}:∀(n:Nat),(∀i,i<n->∃x,p i x)->∃l:List α,l.length=n/\∀i x,l[i]?=Ts x->p i x
 |0,_=>⟨[],rfl,fun i x h=>QX⟩
 |n+1,h=>by
  obtain⟨l,c,b⟩:=Jb n (fun i hi=>h i Ph);obtain⟨x,m⟩:=h n Ph;refine⟨l++[x],Zbx,fun i y U=>?_⟩;rw[List.getElem?_append]at U;split at U
  .exact b i y U
  have:i-l.length=0:=by
   rcases Ye (i-l.length)with L|L
   .exact L
   rw[List.getElem?_eq_none Pp]at U;cases U
  rw[this]at U;simp at U;subst U;rwa[show i=n from Ph]
def yo.list{α:Type}{R:pD α}{Q:α->Prop}{C}(h:yo enc P w t cs)(N:P.underlying t=Ts (.slice e))(H:P.cellsOf e=C)(z:0<C)(B:∀b o s,s.length=C->(∀j v,s[j]?=Ts v->w.cell? ⟨b,o+j,U8⟩=Ts v)->yo enc P w e s->∃x,R w b o x/\Q x):
  ∃(a:Option VW)(l:List α)(cap:Nat),cs=[.slice a l.length cap]/\l.length<=cap/\cap<=VL/\cr C R w a l/\∀x∈l,Q x:=by
 obtain⟨f,x,h⟩:=h;rcases open_slice N h with⟨rfl,_⟩|⟨a,len,cap,m,n,D,O,rfl,hb,p,K,y,_,g⟩
 .exact⟨U8,[],0,rfl,UY _,VF _,ZO _ _ _ _,fun x g=>by simp at g⟩
 have key:∀i,i<len->∃x,(∃b off,Ts a=Ts ⟨b,off,U8⟩/\R w b (off+i*C) x)/\Q x:=fun i hi=>by
  obtain⟨s,h1,c⟩:=g i (by rw[y];simp;omega);obtain⟨_,d,A⟩:=World.cells?_some h1;rw[H]at d A;have u:a.spot=U8:=by
   obtain⟨E,g1,g2⟩:=g 0 (by rw[y];simp;omega);obtain⟨_,q,r⟩:=World.cells?_some g1;rw[H]at q r;have F:=r 0 z;rw[V8 (show 0<E.length from Ph)]at F;simpa [Addr.add]using World.cell?_spot F
  obtain⟨b,off,I⟩:=a;simp only at u;subst u
  obtain⟨x,L,M⟩:=B b (off+i*C) s d (fun j v G=>by
   have:=A j (by have:=(UU.1 G).1;omega);rw[add_plain,add_plain,G]at this
   exact this) ⟨n,_,c⟩
  exact⟨x,⟨b,off,rfl,L⟩,M⟩
 obtain⟨l,d,J⟩:=Jb len key;refine⟨Ts a,l,cap,by rw[d],Ph,K,fun i x g=>(J i x g).1,fun x g=>?_⟩;obtain⟨i,hi,rfl⟩:=List.getElem_of_mem g;exact(J i _ (V8 hi)).2
end
def uJ{cs:List UV}{o}{v:UV}(h:(cs.drop o).take 1=[v]):cs[o]?=Ts v:=cell_of_cut h
end
end Go.Proofs.YtjmgalpkbkcmkaaGreatDoor

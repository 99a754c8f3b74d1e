/- Lemmas for SignerOnce. Conditions: in each statement. -/
import Derived.Test.YtjmgalpkbkcmkaaGreatDoorQ04
import Derived.Test.YtjmgalpkbkcmkaaGreatDoorQ06
import Derived.Test.YtjmgalpkbkcmkaaGreatDoorQ10
set_option maxRecDepth 100000
set_option maxHeartbeats 16000000
set_option linter.all false
namespace Go.Proofs.YtjmgalpkbkcmkaaGreatDoor
open Go.RowKit Go.Proofs.Tryz Go.Proofs.YtjmgalpkbkcmkaaGreatDoor.Tryz
open And renaming intro->Xy
open _root_.Array renaming getElem?_eq_getElem->Vy,getElem?_eq_some_iff->UE,getElem?_setIfInBounds_ne->Wg,getElem?_toList->YN
open Bool renaming and_eq_true->V7
open Classical renaming not_not->Xn
open Exists renaming elim->UX
open Go renaming Addr->VW,Calls->VB,Ending->Xo,Value->UV,World->UN,bodyPost_ret->VC,cell_of_row->Uc,frozen_of_row->VQ,grownCap->Yt,grownCap_le_maxLen->Yh,heap_setCell_same->VE,info_parts->WN,maxLen->VL,results->Vo,run_underlying->Yl,setRow_heap->Z4,undef->VM,wpIn_wide->WV,wpList_store_row->WS
open Go.Act renaming put->Ua
open Go.Builtin renaming append_->YU,zeroCells->WP
open Go.Ending renaming returned->UO
open Go.IntKind renaming i64->Tl,u64->Tt,u8->Uy
open Go.Lib renaming hid->Tn
open Go.Obj renaming cells->Tq
open Go.Proofs renaming enters_of->Vv,intOf->VS
open Go.Proofs.Tryz renaming prog->UB
open Go.Proofs.YtjmgalpkbkcmkaaGreatDoor.Fr renaming of_ext->Uh,setCell->Uz
open Go.Proofs.YtjmgalpkbkcmkaaGreatDoor.aJ renaming own->Yz
open Go.Proofs.YtjmgalpkbkcmkaaGreatDoor.cr renaming nil->ZO
open Go.Value renaming agg->UT,bool->U1,int->Ti,ownBlock->Vt,pointer->UK,slice->Tm,string->UH,tuple->UW
open Go.World renaming alloc_heap_new->UZ,cell?->Wc,ownsRow_nil->WO,size_alloc->Ud
open List renaming append_assoc->Ws,eq_nil_of_length_eq_zero->VA,getD_cons_zero->Xp,getElem?_eq_some_iff->UU,getElem?_map->VU,length_append->Uo,length_cons->Up,length_map->VR,length_nil->VJ,length_take->VZ,mem_append->WD,mem_append_left->Xz,mem_cons->VN,mem_map->Wl,mem_of_getElem?->Uv,mem_singleton->VP,nil_append->Vd,size_toArray->WG,take_of_length_le->VD
open Nat renaming add_zero->YF,eq_zero_or_pos->Ye,le_refl->UY,le_trans->VG,lt_trans->WF,mod_lt->Wf,zero_le->VF
open Option renaming none->U8,some->Ts
open Option.some renaming inj->Vm
open Or renaming inl->WQ
variable {D E bc cap g i j k m n n1 n2 nc pc rc sx y:Nat} {S:Nat->Prop} {T t:TypeId} {V W b c d w w' w1 w2 wr:World} {a a1 ba da na pa ra:Option Addr} {a10 a11 a12 a13 a14 a15 a16 a17 a18 a19 a2 a20 a21 a3 a4 a5 a9 v x x0 z:Value} {l:List ByteArray} {life me ser ses:Int} {vs:List Value}
def ag5(s:au):ByteArray:=⟨s.toArray⟩
def jM:b7:=⟨⟨#[119,101,98]⟩,true,[⟨#[42,46,98]⟩],0,50,0,0⟩
def tK(c:ff):yZ:=⟨0,c.names.map ag5,(c.key:Int),c.until_-c.from_⟩
def nF(c:ff):Bool×Int:=((fH [jM] (ef [jM]) (tK c)).1.allow,(fH [jM] (ef [jM]) (tK c)).2)
def Ih:Lg:=Ht 0 [97] 5
def Ir:Lg:=Ht 1 [98] 5
def mJ(serial:Int)(name:au)(life:Int):ff:=⟨serial,[114],[],4,[name],0,life,false,0,[],[],⟨0,0⟩⟩
def pO(serial:Int)(name:au)(life:Int):au:=jy (mJ serial name life) (fI (mJ serial name life))
def Br(serial:Int)(name:au)(life:Int):ff:={mJ serial name life with proms:=[ag1 Ih (pO serial name life) 1,ag1 Ir (pO serial name life) 1]}
def fB(serial:Int)(name:au)(life:Int):au:=jy (Br serial name life) (du (Br serial name life))
def iw:List Ky:=[BC Ih,BC Ir]
def ep(serial:Int)(name:au)(life:Int):Bool:=lj Ih==0&&(lj Ir==0&&(cB (mJ serial name life) (fI (mJ serial name life))==0&&(JU Ih (pO serial name life) 1==0&&(JU Ir (pO serial name life) 1==0&&cB (Br serial name life) (du (Br serial name life))==0))))
def OM:au:=[97,46,98]
def abV:au:=[99,46,98]
def afL:au:=[97,46,99]
def aiP:au:=[100,46,98]
def aeG:ep 1 OM 9=true:=Pj
def aeO:ep 1 abV 9=true:=Pj
def ad5:ep 2 afL 9=true:=Pj
def ahJ:ow nF iw (fB 1 OM 9)=0:=Pj
def aiT:ow nF iw (fB 2 afL 9)=161:=Pj
def aiW:ow nF (iw.take 1) (fB 1 OM 9)=251:=Pj
def kU:bq:=((iO (jE iU [[115]]) 1 1 [115])[0]?).getD ⟨0,0⟩
def iC:nt:=⟨1,1,base (jE iU [[115]]),gA (iO (jE iU [[115]]) 1 1 [115])⟩
def oy:dp:=⟨kU,false,true,[],⟨[],[]⟩⟩
def jt:au:=fB 1 OM 9
def Nn:au:=fB 1 abV 9
def Mz:au:=fB 2 afL 9
def dn(c serial:Int)(b:au):Dn:=⟨c,serial,bF b⟩
def qk:dp:=bN oy (dn 7 1 jt)
def JS:dp:=gB qk 0
def EG:dp:=ju JS
def GR:dp:={oy with bad:=true}
def Mi:bq:=cE kU 7 jt
def CY:kr kU=true:=Pj
def KC:bA oy 7 (ow nF iw jt) (dn 7 1 jt)=0:=Pj
def ajF:bJ qk=0/\qk.done=[dn 7 1 jt]/\qk.bad=false/\qk.up=true:=Pj
def ahU:bJ EG=0/\EG.done=[dn 7 1 jt]/\EG.bad=false/\EG.up=true:=Pj
def ah2:bJ oy=0:=Pj
def afZ:bA GR 8 0 (dn 8 2 Mz)=0:=Pj
def N4:bA EG 7 (ow nF iw Nn) (dn 7 1 Nn)=250:=Pj
def Oq:gJ iC jt [Mi] (jG iC kU 7 jt [Mi])=0:=Pj
structure ig(s:dp)(did:List Dn):Prop where
 bad:s.bad=false
 opn:s.store.opn=[]
 check:bJ s=0
 ex:∃L,cY (bk s.store)=Ts L/\(s.up=true->s.done=L)/\(∀d∈L,∃k∈did,k.ses=d.ses/\k.body=d.body)/\∀k∈did,k∈L
def ig.start:ig oy []:=⟨rfl,rfl,ah2,[],Pj,fun _=>rfl,fun d y=>(by cases y),fun k o=>Zbz⟩
def Ni{s:dp}{d}(h:s.store.opn=[]):(jw s d).store.opn=[]:=by
 unfold jw;split
 .exact h
 rfl
def ig.commit{s b d}(h:ig s b)(y:KD d)(q:bA s ses me d=0):ig (bN s d) (b++[d]):=by
 obtain⟨L,h1,c,A,z⟩:=h.ex;obtain⟨B,r,j,_,u,p,l,t,_⟩:=Jy (fun _=>y) q;have g:s.done=L:=c r;have f:=(t h.bad).2.2;refine⟨u.trans h.bad,?_,(mr p).2 j,(bN s d).done,j.told,fun _=>rfl,?_,?_⟩
 .unfold bN;rw[h.bad,if_neg Pm];exact Ni h.opn
 .intro x m;have old:∀x∈L,∃k∈b++[d],k.ses=x.ses/\k.body=x.body:=fun x m=>by
   obtain⟨k,o,e⟩:=A x m;exact⟨k,Xz _ o,e⟩
  rcases l with e|e
  .rw[e,g]at m;exact old x m
  rw[e,g]at m;rcases WD.1 m with m|m
  .exact old x m
  rw[VP]at m;exact⟨d,Pm,by rw[m],by rw[m]⟩
 intro k o;rcases WD.1 o with o|o
 .have:=z k o;rw[<-g]at this;rcases l with e|e
  .rw[e];exact this
  rw[e];exact Xz _ this
 rw[VP]at o;rw[o];exact f
def ig.crash{s b}(h:ig s b)(X:s.up=true):ig (gB s 0) b:=by
 obtain⟨L,h1,c,A,g⟩:=h.ex;have d:=(mr X).1 h.check;have f:=Jo d 0 (by rw[h.opn];simp);refine⟨h.bad,rfl,GO d 0,L,by rw[f,c X],fun e=>RH,A,g⟩
def ig.back{s b}(h:ig s b)(X:s.up=false):FJ s=0/\ig (ju s) b:=by
 obtain⟨L,h1,c,A,j⟩:=h.ex;obtain⟨g,f,d⟩:=adU h.check X h1;refine⟨g,h.bad,?_,(mr rfl).2 f,L,by rw[f.told,d],fun _=>d,A,j⟩;show(iR s.store).opn=[]
 unfold iR;dsimp only;have p:(bk s.store).length=s.store.safe.length:=by rw[dg,h.opn];rfl
 have S:=uF (bk s.store);rw[Nat.min_eq_left Ph];rw[List.drop_eq_nil_of_le];rw[VZ];omega
def ig.known{s f}(h:ig s f)(X:s.up=true){b:nD}(o:s.done.any (fun d=>d.ses==ses&&d.body==b)=true):f.any (fun d=>d.ses==ses&&d.body==b)=true:=by
 obtain⟨L,h1,c,A,j⟩:=h.ex;rw[c X]at o;rw[List.any_eq_true]at o⊢;obtain⟨d,y,e⟩:=o;obtain⟨k,o,am,g⟩:=A d y;exact⟨k,o,by rw[am,g];exact e⟩
def ig.one{s d}(h:ig s d):∀a∈d,∀b∈d,(a.ses=b.ses\/a.ser=b.ser)->a.body=b.body:=by
 obtain⟨L,h1,c,A,g⟩:=h.ex;intro a j b hb f;have J:=FA h1 a (g a j) b (g b hb);unfold cI at J;rcases Classical.em (a=b)with e|e
 .rw[e]
 rw[show(a==b)=false from Zar]at J;simp only[Bool.not_false,Bool.true_and,Bool.or_eq_false_iff,beq_eq_false_iff_ne,ne_eq,Bool.and_eq_false_iff,Bool.not_eq_false',beq_iff_eq]at J;rcases f with am|am
 .exact absurd am J.1
 exact J.2.resolve_left (fun h=>h am)
def oB{name:au}(h:ep ser name life=true):cz (fB ser name life)= .ok (Br ser name life)/\0<=ser/\ser<=1099511627776:=by
 unfold ep at h;simp only[V7,beq_iff_eq]at h;obtain⟨_,_,_,_,_,b⟩:=h;have hb:fB ser name life=cy (du (Br ser name life)):=by unfold fB jy;rw[if_pos b]
 have J:bG (Br ser name life)=0:=by
  unfold cB at b;split at b
  .next c=>exact absurd b c
  next c=>exact Xn.1 c
 have hn:=jf.1 (ji (fw J).1).2.1;exact⟨by rw[hb];exact CE J rfl,hn.1,hn.2⟩
def OH{name:au}(h:ep ser name life=true)(L:0<=ses)(h1:ses<=1099511627776):KD (dn ses ser (fB ser name life)):=by
 obtain⟨_,c,A⟩:=oB h;have:=lk (fB ser name life);exact⟨L,h1,c,A,this.1,this.2⟩
def re(d:Nat)(x y:nD)(w):(Op.equalIn (d+2) 56 (UT #[ag x.1,ag x.2]) (UT #[ag y.1,ag y.2])).run UB w= .ok (x==y) w:=by
 obtain⟨i,hi,_⟩:=WN A4;have X:UB.underlying 56=Ts (.array 2 30):=Pg;have J:UB.cellsOf 30=1:=Pg;rw[run_equalIn_array w (d+1) _ _ X hi,J,show List.range 2=[0,1]from rfl];unfold ag;simp only[Op.eqItems];go_simp;obtain⟨f,b⟩:=x;obtain⟨j,g⟩:=y;dsimp only;have am:((f:Int)=(j:Int))=(f=j):=by apply propext;omega
 have l:((b:Int)=(g:Int))=(b=g):=by apply propext;omega
 simp only[am,l];by_cases h1:f=j<;>by_cases c:b=g<;>simp[h1,c]
def Ad(a b:nD)(w:UN):Sem.run UB (binOp .neq 56 (UT #[ag a.1,ag a.2]) (UT #[ag b.1,ag b.2])) w= .ok (U1 (!(a==b))) w:=by
 rw[run_neq_struct,show(10000:Nat)=9998+2 from rfl,re];rfl
def Av(a b:nD)(w:UN):Sem.run UB (binOp .eql 56 (UT #[ag a.1,ag a.2]) (UT #[ag b.1,ag b.2])) w= .ok (U1 (a==b)) w:=by
 rw[run_eql_struct,show(10000:Nat)=9998+2 from rfl,re];rfl
def NA(a b)(w:UN):Sem.run UB (binOp .neq 68 (p4 a) (p4 b)) w= .ok (U1 (!(a==b))) w:=by
 have l:UB.underlying 68=Ts (.struct (UB.fieldsOf 68)):=Pg;have x:UB.stoodInHeld 68=false:=Pg;unfold p4;rw[run_neq_struct,show(10000:Nat)=9999+1 from rfl,run_equalIn_agg w 9999 68 _ _ l x];exact U3
def AA(a b:Dn)(g:Nat)(w:UN)(h:w.heap[g]?=Ts (Tq #[Ti Tl a.ses,Ti Tl a.ser,ag a.body.1,ag a.body.2] 68 (0,0))):
  VB UB 170 #[p4 b,UK (Ts ⟨g,0,U8⟩)] w (bM (U1 (cI a b)) w):=by
 refine P1 w.heap.size fun D C=>P1 (w.alloc (Tq #[Ti Tl b.ses,Ti Tl b.ser,ag b.body.1,ag b.body.2] 68)) fun t T=>have s:=Tn (show aq w t from QA);have c:t.heap[D]?=Ts (Tq #[Ti Tl b.ses,Ti Tl b.ser,ag b.body.1,ag b.body.2] 68 (0,0)):=XG;have h1:t.heap[g]?=Ts (Tq #[Ti Tl a.ses,Ti Tl a.ser,ag a.body.1,ag a.body.2] 68 (0,0)):=(s.block g (UE.1 h).1).trans h;PR h1 fun a0 a1 a2 a3=>PR c fun b0 b1 b2 p=>have n1:=fun w=>NA a b w;have n2:=fun w=>Ad a.body b.body w;?_;unfold p4 at*;have Z:Hid (cI a b=(!(a==b)&&(a.ses==b.ses||(a.ser==b.ser&& !(a.body==b.body))))):=Tn rfl;cases d:(a==b)<;>cases m:(a.ses==b.ses)<;>cases f:(a.ser==b.ser)
 all_goals
  rw[d]at n1
  refine P3 d m f fun j l o=>?_
  go_enter func170,ntmps170
  go_upto_region 1 with fail
  try rw[T]
  try rw[C]
  go_wp2
  go_ret
  exact⟨by rw[Z.out,j.out,l.out,o.out];rfl,s⟩
section
def cu{B:Nat}{y s r p o:UV}(u:w.heap[B]?=Ts (Tq #[x0,y,x,s,r,p,o] t (0,0)))(d f g j l m q:UV):
  (((((((w.setCell ⟨B,0,U8⟩ d).setCell ⟨B,1,U8⟩ f).setCell ⟨B,2,U8⟩ g).setCell ⟨B,3,U8⟩ j).setCell ⟨B,4,U8⟩ l).setCell ⟨B,5,U8⟩ m).setCell ⟨B,6,U8⟩ q).heap[B]?=Ts (Tq #[d,f,g,j,l,m,q] t (0,0))/\Fr (fun i=>i=B) w (((((((w.setCell ⟨B,0,U8⟩ d).setCell ⟨B,1,U8⟩ f).setCell ⟨B,2,U8⟩ g).setCell ⟨B,3,U8⟩ j).setCell ⟨B,4,U8⟩ l).setCell ⟨B,5,U8⟩ m).setCell ⟨B,6,U8⟩ q):=by
 have L:(w.setCell ⟨B,0,U8⟩ d).heap[B]?=Ts (Tq #[d,y,x,s,r,p,o] t (0,0)):=(VE _ B 0 _ _ _ u).trans Pm;have h1:((w.setCell ⟨B,0,U8⟩ d).setCell ⟨B,1,U8⟩ f).heap[B]?=Ts (Tq #[d,f,x,s,r,p,o] t (0,0)):=(VE _ B 1 _ _ _ L).trans Pm;have c:(((w.setCell ⟨B,0,U8⟩ d).setCell ⟨B,1,U8⟩ f).setCell ⟨B,2,U8⟩ g).heap[B]?=Ts (Tq #[d,f,g,s,r,p,o] t (0,0)):=(VE _ B 2 _ _ _ h1).trans Pm;have A:((((w.setCell ⟨B,0,U8⟩ d).setCell ⟨B,1,U8⟩ f).setCell ⟨B,2,U8⟩ g).setCell ⟨B,3,U8⟩ j).heap[B]?=Ts (Tq #[d,f,g,j,r,p,o] t (0,0)):=(VE _ B 3 _ _ _ c).trans Pm;have C:(((((w.setCell ⟨B,0,U8⟩ d).setCell ⟨B,1,U8⟩ f).setCell ⟨B,2,U8⟩ g).setCell ⟨B,3,U8⟩ j).setCell ⟨B,4,U8⟩ l).heap[B]?=Ts (Tq #[d,f,g,j,l,p,o] t (0,0)):=(VE _ B 4 _ _ _ A).trans Pm;have D:((((((w.setCell ⟨B,0,U8⟩ d).setCell ⟨B,1,U8⟩ f).setCell ⟨B,2,U8⟩ g).setCell ⟨B,3,U8⟩ j).setCell ⟨B,4,U8⟩ l).setCell ⟨B,5,U8⟩ m).heap[B]?=Ts (Tq #[d,f,g,j,l,m,o] t (0,0)):=(VE _ B 5 _ _ _ C).trans Pm;have z:(((((((w.setCell ⟨B,0,U8⟩ d).setCell ⟨B,1,U8⟩ f).setCell ⟨B,2,U8⟩ g).setCell ⟨B,3,U8⟩ j).setCell ⟨B,4,U8⟩ l).setCell ⟨B,5,U8⟩ m).setCell ⟨B,6,U8⟩ q).heap[B]?=Ts (Tq #[d,f,g,j,l,m,q] t (0,0)):=(VE _ B 6 _ _ _ D).trans Pm;exact⟨z,(Uz (S:=fun b=>b=B) _ ⟨B,0,U8⟩ _ rfl).trans ((Uz (S:=fun b=>b=B) _ ⟨B,1,U8⟩ _ rfl).trans ((Uz (S:=fun b=>b=B) _ ⟨B,2,U8⟩ _ rfl).trans ((Uz (S:=fun b=>b=B) _ ⟨B,3,U8⟩ _ rfl).trans ((Uz (S:=fun b=>b=B) _ ⟨B,4,U8⟩ _ rfl).trans ((Uz (S:=fun b=>b=B) _ ⟨B,5,U8⟩ _ rfl).trans (Uz (S:=fun b=>b=B) _ ⟨B,6,U8⟩ _ rfl))))))⟩
def CG{B:Nat}(u:w.heap[B]?=Ts (Tq #[x0] t (0,0)))(c:UV):
  (w.setCell ⟨B,0,U8⟩ c).heap[B]?=Ts (Tq #[c] t (0,0))/\Fr (fun i=>i=B) w (w.setCell ⟨B,0,U8⟩ c):=⟨(VE _ B 0 _ _ _ u).trans Pm,Uz (S:=fun b=>b=B) _ ⟨B,0,U8⟩ _ rfl⟩
def Dt(c cb f:Nat)(w):
  CallsD UB 94 #[UK (Ts ⟨c,0,U8⟩),UK (Ts ⟨cb,0,U8⟩),UK (Ts ⟨f,0,U8⟩)] .returning w fun e d w'=>e=UO (UW #[])/\d= .returning/\w'=w:=by
 refine callsD_of_wpS func94 rfl fun b cs X=>?_;apply wpS_seq;apply wpS_region;simp[wpOpsS,go_sem,recoverD,X,ntmps94,Exit.thenS];refine wpS_of_wp ?_;go_wp2_with fail;cases b;simp_all[bodyPostS,Vo,results94]
section
attribute [local irreducible] ak aN
def Ka(F:Nat)(k:Int):List (UV->UN->Prop):=
 [ev (UT #[Ti Tl 0,Ti Tt 0,U1 false,U1 false,zz,zz,zz]),
  ev (UT #[Ti Tl 0,Ti Tt 0]),
  ev (UK (Ts ⟨F,0,U8⟩)),
  ev (Ti Tl k),
  tv,
  tv,
  tv]
def ME(F:Nat)(k:Int):List (UV->UN->Prop):=
 Ka F k
def aaV(V:UN)(b:Nat)(w:UN):Prop:=w.heap[b]?=Ts (Tq #[Ti Tl 0,Ti Tt 0,U1 false,U1 false,zz,zz,zz] 44 (0,0))/\Fr (fun i=>i=b) V w
def ac2(F:Nat)(k:Int):List (UV->UN->Prop):=
 ME F k
def M2(V:UN)(b:Nat)(cb:Nat)(w:UN):Prop:=w.heap[b]?=Ts (Tq #[Ti Tl 0,Ti Tt 0,U1 false,U1 false,zz,zz,zz] 44 (0,0))/\w.heap[cb]?=Ts (Tq #[Ti Tl 0,Ti Tt 0] 39 (0,0))/\Fr (fun i=>i=b\/i=cb) V w
def ai4(F:Nat)(k:Int):List (UV->UN->Prop):=
 ac2 F k
def aeS(V:UN)(c:Nat)(cb:Nat)(b:Nat)(k:Int)(w:UN):Prop:=w.heap[c]?=Ts (Tq #[Ti Tl 0,Ti Tt 0,U1 false,U1 false,zz,zz,zz] 44 (0,0))/\w.heap[cb]?=Ts (Tq #[Ti Tl 0,Ti Tt 0] 39 (0,0))/\w.heap[b]?=Ts (Tq #[Ti Tl k] 34 (0,0))/\Fr (fun i=>i=c\/i=cb\/i=b) V w
def An{p:Prop}(h:p:=by
  intro s vs w' hlo hhi hl hK hd;rcases(show s=0\/s=1\/s=2\/s=3 from Ph)with rfl|rfl|rfl|rfl<;>try omega
  all_goals first
  |(
    have HK0:Hid (aq V3 w'):=hK;clear hK;simp only[aK,Ua,PV];(try rw[dq hd 2 Pj rfl]);have HL:=Tn hl;clear hd hl;(try(have z:=ae HCF HK0));unfold ak;go_simp
    exact⟨rfl,P0⟩)
  |(
    have hk:=hK;simp only[PW]at hk;unfold aaV at hk;refine P4 hk.1 hk.2 fun HK0 HK1=>?_;clear hk hK;simp only[aK,Ua,PV];(try rw[dq hd 2 Pj rfl]);have HL:=Tn hl;clear hd hl;(try(have z:=(HK1.cell (p:=⟨F,0,U8⟩) HFL (fun e=>HN.out.2.2.1 e)).trans HCF));unfold ak;go_simp
    exact⟨rfl,P0⟩)
  |(
    have hk:=hK;simp only[PW]at hk;unfold M2 at hk;refine P3 hk.1 hk.2.1 hk.2.2 fun HK0 HK1 HK2=>?_;clear hk hK;simp only[aK,Ua,PV];(try rw[dq hd 2 Pj rfl]);have HL:=Tn hl;clear hd hl;(try(have z:=(HK2.cell (p:=⟨F,0,U8⟩) HFL (fun e=>e.elim (fun e=>HN.out.2.2.1 e) (fun e=>HN.out.2.2.2 e))).trans HCF));unfold ak;go_simp
    exact⟨rfl,P0⟩)):p:=h
def Cx(d cb l:Nat)(k:Int)(y0 y1 y2 y3 y4 Z y6 z0 z1 ev:UV)(m:List PanicEntry)(w:UN)(h1:w.heap[d]?=Ts (Tq #[y0,y1,y2,y3,y4,Z,y6] 44 (0,0)))(c:w.heap[cb]?=Ts (Tq #[z0,z1] 39 (0,0)))(A:w.heap[l]?=Ts (Tq #[ev] 34 (0,0)))(n1:d≠cb)(n2:d≠l)(n3:cb≠l):
  CallsD UB 94 #[UK (Ts ⟨d,0,U8⟩),UK (Ts ⟨cb,0,U8⟩),UK (Ts ⟨l,0,U8⟩)] (.panicking ({v:= .iface 184 (UT #[Ti Tl k]),recovered:=false}::m)) w fun e u' w'=>e=UO (UW #[])/\
   u'= .panicking ({v:= .iface 184 (UT #[Ti Tl k]),recovered:=true}::m)/\w'.heap[d]?=Ts (Tq #[Ti Tl 0,Ti Tt 0,U1 false,U1 false,zz,zz,zz] 44 (0,0))/\w'.heap[cb]?=Ts (Tq #[Ti Tl 0,Ti Tt 0] 39 (0,0))/\w'.heap[l]?=Ts (Tq #[Ti Tl k] 34 (0,0))/\Fr (fun b=>b=d\/b=cb\/b=l) w w':=by
 refine callsD_of_wpS func94 rfl fun c₀ cs X=>?_;apply wpS_seq;apply wpS_region;simp[wpOpsS,go_sem,recoverD,X,ntmps94,Exit.thenS];refine wpS_of_wp ?_;refine Code.wp_mono (Q:=fun e T w'=>e=Exit.normal/\T.defers=[]/\w'.heap[d]?=Ts (Tq #[Ti Tl 0,Ti Tt 0,U1 false,U1 false,zz,zz,zz] 44 (0,0))/\w'.heap[cb]?=Ts (Tq #[Ti Tl 0,Ti Tt 0] 39 (0,0))/\w'.heap[l]?=Ts (Tq #[Ti Tl k] 34 (0,0))/\Fr (fun b=>b=d\/b=cb\/b=l) w w') ?_ ?_
 .rintro e T w'⟨rfl,hd,u⟩;simp_all[bodyPostS,Vo,results94]
 clear X;simp only[Array.replicate_succ,Array.replicate_zero,List.push_toArray,List.append_toArray,Vd,List.cons_append,PU];have hta:∀W,(Instr.typeAssert (.iface 184 (UT #[Ti Tl k])) 20 184 true).run UB W= .ok (UW #[UT #[Ti Tl k],U1 true]) W:=fun _=>Pg;refine P1 w.heap.size fun F P=>P5 h1 c A (Xy n1 (Xy n2 n3)) fun U R H3 y=>?_;clear h1 c A n1 n2 n3;go_upto_region 7 with fail;refine P1 (w.alloc (Tq #[Ti Tl k] 184)) fun V3 q=>have B:=Tn (UZ w (Tq #[Ti Tl k] 184));?_;rw[q]at B;try rw[q]
 try rw[P]
 have Id:Hid (aq w V3):=Tn (by rw[<-q];exact af P0 _);have HCF:=Tn (Uc V3 w.heap.size 0 _ _ _ B);have HFL:=Tn (aR HCF);rw[P]at HCF HFL;refine P3 (ai U Id) (ai R Id) (ai H3 Id) fun G H J=>have HN:Hid (d≠cb/\(d≠l/\cb≠l)/\F≠d/\F≠cb):=Tn ⟨y.1,⟨y.2.1,y.2.2⟩,(by have:=(UE.1 U).1;omega),(by have:=(UE.1 R).1;omega)⟩;?_;clear P q;have M:EX (Ka F k):=by repeat first|exact Gl|refine EC ?_|refine Gx ?_
 have O:EX (ME F k):=M;have S:EX (ac2 F k):=O;refine(WV (n:=0)).1 ?_;refine bu (r:=U8) 7 [4,5,6] [cT,(false,0,1),(false,0,2),(false,0,2),(true,0,0),(true,1,0),(true,2,0)] [Ts 12,Ts 13,Ts 14,Ts 15,U8,U8,U8] Pg Pg Pg [aq V3,aaV V3 d,M2 V3 d cb,aeS V3 d cb l k] (BY yk (by rintro w w'⟨L,h1⟩g;exact⟨ai L g,h1.trans (Uh g)⟩) (by rintro w w'⟨L,h1,c⟩g;exact⟨ai L g,ai h1 g,c.trans (Uh g)⟩) (by rintro w w'⟨L,h1,c,A⟩g;exact⟨ai L g,ai h1 g,ai c g,A.trans (Uh g)⟩)) [Ka F k,ME F k,ac2 F k,ai4 F k] (BY M O S (S)) ?k0 ?steps ?fin
 case k0=>exact ap V3
 case steps=>
  refine⟨An,An,An,An,?_,?_,?_,trivial⟩
  .intro vs w' hl hK hd;have HK0:Hid (aq V3 w'):=hK;clear hK;have t9:=hd 0 Pi Pg;simp only[Xp,Ka]at t9;simp only[aK,Ua,PV];(try rw[t9]);have s:=Tn t9;clear t9;have HL:=Tn hl;clear hd hl;have u:=ai G HK0.out;have j:=Tn (cu u (Ti Tl 0) (Ti Tt 0) (U1 false) (U1 false) (zz) (zz) (zz));refine PX u fun V am e2 e3 e4 e5 e6=>PY u fun D I Y fz3 fz4 fz5 fz6=>bg fun x t=>have C:=Tn t;?_;clear t;unfold aN;go_simp;refine C.out _ _ ⟨⟨j.1,(Uh HK0.out).trans j.2⟩,trivial,TR.go Bt⟩
  .intro vs w' hl hK hd;have hk:=hK;simp only[PW,aaV]at hk;refine P4 hk.1 hk.2 fun HK0 HK1=>?_;clear hk hK;have t9:=hd 0 Pi Pg;have f:=hd 1 Pi Pg;simp only[Ua,PV,ME,Ka]at t9 f;simp only[aK,Ua,PV];(try rw[t9]);(try rw[f]);refine P4 t9 f fun s z=>?_;clear t9 f;have HL:=Tn hl;clear hd hl;have u:=aM H HK1 (fun e=>HN.out.1 e.symm);have j:=Tn (dt u (Ti Tl 0) (Ti Tt 0));refine PM u fun V am=>PO u fun D I=>bg fun x t=>have C:=Tn t;?_;clear t;unfold aN;go_simp;refine C.out _ _ ⟨⟨aM HK0.out j.2 (fun e=>HN.out.1 e),j.1,(HK1.mono fun _ _ e=>WQ e).trans (j.2.mono fun _ _ e=>Or.inr e)⟩,trivial,TR.go Bt⟩
  intro vs w' hl hK hd;have hk:=hK;simp only[PW,M2]at hk;refine P3 hk.1 hk.2.1 hk.2.2 fun HK0 HK1 HK2=>?_;clear hk hK;have t9:=hd 0 Pi Pg;have f:=hd 1 Pi Pg;have p:=hd 2 Pi Pg;have o:=hd 3 Pi Pg;simp only[Ua,PV,ac2,ME,Ka]at t9 f p o;simp only[aK,Ua,PV];(try rw[t9]);(try rw[f]);(try rw[p]);(try rw[o]);refine P4 t9 f fun s z=>?_;clear t9 f p o;have HL:=Tn hl;clear hd hl;have u:=aM J HK2 (fun e=>e.elim (fun e=>HN.out.2.1.1 e.symm) (fun e=>HN.out.2.1.2 e.symm));have j:=Tn (CG u (Ti Tl k));have V:=Uc w' l 0 _ _ _ u;have D:=VQ w' l 0 _ _ u;refine bg fun x t=>have C:=Tn t;?_;clear t;unfold aN;go_simp;refine C.out _ _ ⟨⟨aM HK0.out j.2 (fun e=>HN.out.2.1.1 e),aM HK1 j.2 (fun e=>HN.out.2.1.2 e),j.1,(HK2.mono fun _ _ e=>e.elim WQ (fun e=>Or.inr (WQ e))).trans (j.2.mono fun _ _ e=>Or.inr (Or.inr e))⟩,trivial,TR.go Bt⟩
 intro vs w' hl hK hd;have hk:=hK;simp only[Up,VJ,PW,aeS]at hk;refine P5 hk.1 hk.2.1 hk.2.2.1 hk.2.2.2 fun HK0 HK1 HK2 E=>?_;clear hk hK;simp only[aK,Ua,PV];iterate 4 (try generalize vs.getD _ VM=xq)
 clear hd hl;go_wp2_with fail;exact⟨HK0.out,HK1,HK2,(Uh Id).trans E⟩
end
end
def JO(F d)(p:Dn->Bool)(l a n cap w)(cf:kI F d w l p4 p)(y:l.length=n)(hn:n<=1000000000)(B:n<=cap)(h:cr 4 ahG w a l):
  VB UB 111 #[Tm a n cap,.func (.func F) #[] d] w (bM (Ti Tl (kR p l)) w):=by
 refine P3 y h cf fun u H I=>have J:=cf.enters;?_;go_enter func111,ntmps111;go_wp2;go_loopw [8] (fun j wr=>∃k:Nat,k<=n/\j=Ti Tl k/\(l.take k).all (fun x=> !p x)=true/\aq w wr) (fun j _=>n-(VS j).toNat)
 case atStart=>exact⟨0,VF _,rfl,rfl,P0⟩
 obtain⟨k,o,rfl,f,g⟩:=hrel;refine P4 g f fun ys c=>?_;by_cases R:k<n
 .obtain⟨x,m⟩:=ay u R;have z:=Tn (I.does x (Uv m));obtain⟨b,off,rfl,E,G,A,C⟩:=(H.ext ys) k x m;have t:=Tn m;go_wp2_with fail;refine P2 (z _ (ys)) fun K D=>have q:=Tn (aa ys D);?_;cases r:p x with
  |true=>
   exact TQ
  |false=>
   have s:=Tn (show(l.take (k+1)).all (fun x=> !p x)=true from RA);go_wp2;go_roundw
   case rel=>exact⟨k+1,Ph,Pt,s,q⟩
   case measure=>simp[VS];omega
 exact TN
def sr(F b)(p:Dn->Bool)(l a n cap w)(cf:kI F b w l p4 p)(f:l.length=n)(hn:n<=1000000000)(d:n<=cap)(h:Kz w a l):
  VB UB 42 #[Tm a n cap,.func (.func F) #[] b] w (bM (U1 (l.any p)) w):=by
 refine P4 (JO F b p l a n cap w cf f hn d h) (gI p l) fun g j=>?_;go_enter func42,ntmps42;go_wp2_with fail;refine P2 g fun m D=>have c:=Tn D;?_;rcases j.out with⟨h1,_,A⟩|⟨i,x,h1,_,_,_,A⟩
 .have Z:=Tn A;rw[h1];go_wp2;go_ret;exact⟨Ps,c⟩
 have Z:=Tn A;rw[h1];have hi:decide ((0:Int)<=(i:Int))=true:=Pm;go_wp2;go_ret;exact⟨Ps,c⟩
def adP{l m:List Dn}(h:l.length≠m.length):(l==m)=false:=by
 rw[beq_eq_false_iff_ne];rintro rfl;exact h rfl
def Nb{l m:List Dn}(p:l.length=n)(K:m.length=n)(h:l.take n=m.take n):(l==m)=true:=by
 rw[VD Ph,VD Ph]at h;rw[h];exact beq_self_eq_true _
def ag0{l m:List Dn}{x y:Dn}(b:l[k]?=Ts x)(U:m[k]?=Ts y)(h:(x==y)=false):(l==m)=false:=by
 rw[beq_eq_false_iff_ne]at h⊢;rintro rfl;exact h (Vm (b.symm.trans U))
def FP{l m:List Dn}{x y:Dn}(c:l[k]?=Ts x)(U:m[k]?=Ts y)(h:(x==y)=true)(b:l.take k=m.take k):l.take (k+1)=m.take (k+1):=by
 rw[aW c,aW U,b,eq_of_beq h]
def OL(l m:List Dn)(a b n c k d w)(p:l.length=n)(K:m.length=k)(hn:n<=1000000000)(o:k<=1000000000)(W:n<=c)(hkd:k<=d)(H:Kz w a l)(hb:Kz w b m):
  VB UB 51 #[Tm a n c,Tm b k d] w (bM (U1 (l==m)) w):=by
 refine P5 p K H hb fun T S X HB=>have n1:=fun(x y:Dn)w=>NA x y w;?_;unfold p4 at n1;by_cases z:n=k
 .subst z;go_enter func51,ntmps51;go_wp2;go_loopw [13] (fun j wr=>∃k:Nat,k<=n/\j=Ti Tl k/\l.take k=m.take k/\aq w wr) (fun j _=>n-(VS j).toNat)
  case atStart=>exact⟨0,VF _,rfl,rfl,P0⟩
  obtain⟨q,N,rfl,V,g⟩:=hrel;refine P4 g V fun ys P=>?_;by_cases R:q<n
  .obtain⟨x,Q⟩:=ay T R;obtain⟨y,U⟩:=ay S R;refine P4 Q U fun F G=>?_;obtain⟨b1,o1,rfl,x0,C,D,I⟩:=(X.ext ys) q x F;obtain⟨b2,o2,rfl,E,M,J,L⟩:=(HB.ext ys) q y G;have s:=fun w=>n1 x y w;obtain⟨r,u⟩:∃r,(x==y)=r:=⟨_,rfl⟩;rw[u]at s;have Z:=Tn u;go_upto_region 6 with fail;refine aZ Pg Pg (fun B=>aq wr B) (ap _) ?_;repeat
    (first|refine az rfl rfl rfl rfl ?_|refine aF rfl rfl rfl rfl ?_|refine aw rfl ?_|refine aj rfl rfl rfl rfl rfl ?_|((first|refine av (v:=?_) rfl rfl (fun hb B f=>?_) ?_|refine ar (v:=?_) rfl rfl rfl (fun Y hb B f=>?_) ?_|refine ax (v:=?_) rfl (fun B f=>?_) ?_);rotate_left;(focus(have x0:=ae x0 f;have C:=ae C f;have D:=ae D f;have I:=ae I f;have E:=ae E f;have M:=ae M f;have J:=ae J f;have L:=ae L f;unfold ak;go_simp;first|exact aD f))))
    simp only[Ua,P7]
   refine aA fun B t=>have A:=Tn (aa ys t);?_;cases r
   .go_wp2;go_ret;exact⟨by rw[ag0 F.out G.out Z.out];rfl,A⟩
   go_wp2;go_roundw
   case rel=>exact⟨q+1,Ph,Pt,FP F G Z P,A⟩
   case measure=>simp[VS];omega
  obtain rfl:q=n:=by omega
  go_wp2;go_ret;exact⟨by rw[Nb T.out S.out P.out];rfl,ys⟩
 have O:¬((n:Int)=(k:Int)):=by omega
 have Z:=Tn (adP (l:=l) (m:=m) (by rw[p,K];exact z));rw[Z.out];go_enter func51,ntmps51;exact Tf
def OV:(UB.info? 68).map (fun i=>(i.zero,i.size,i.bytes))=Ts (Ts (UT #[Ti Tl 0,Ti Tl 0,Ti Tt 0,Ti Tt 0]),4,32):=Pg
def jP(l d):bP (l++[d])=bP l++nK d:=by unfold bP;rw[List.flatMap_append];simp
def uK{base}{l:List Dn}(hn:l.length=n)(h:w.ownsRow base 68 4 v n (bP l)):∃a c,v=Tm a n c/\n<=c/\c<=VL/\Kz w a l:=by
 obtain⟨a,c,h1,d,A,f⟩:=kZ (m:=4) (R:=ahG) (cells:=nK) (fun _=>rfl) (fun b o x g J=>⟨QR,J 1 _ rfl,J 2 _ rfl,J 3 _ rfl⟩) hn h;rw[hn]at h1 d;exact⟨a,c,h1,d,A,f⟩
def NW{base}{l:List Dn}(hn:l.length=n)(h:w.ownsRow base 68 4 v n (bP l)):∃a c,v=Tm a n c/\n<=c/\c<=VL/\qg w a l:=by
 obtain⟨a,c,rfl,b,A,d⟩:=uK hn h;exact⟨a,c,rfl,b,A,d,.own hn h⟩
def zI(s:lP)(w:UN)(e:Xo)(b:UN):Prop:=match cY (bk s)with
 |none=>e=UO (UW #[zz,U1 false,U1 false])/\aq w b
 |some l=>∃v,e=UO (UW #[v,U1 (iG (bk s)),U1 true])/\b.ownsRow w.heap.size 68 4 v l.length (bP l)/\aq w b
def qU(d)(w:UN):VB UB 98 #[p4 d] w (fun e b=>e=UO (.func (.func 170) #[] #[UK (Ts ⟨w.heap.size,0,U8⟩)])/\b.heap[w.heap.size]?=Ts (Tq #[Ti Tl d.ses,Ti Tl d.ser,ag d.body.1,ag d.body.2] 68 (0,0))/\aq w b):=by
 have h1:=UZ w (Tq #[Ti Tl d.ses,Ti Tl d.ser,ag d.body.1,ag d.body.2] 68);have c:=Tn h1;unfold p4;go_enter func98,ntmps98;go_wp2;go_ret;exact⟨rfl,c,af P0 _⟩
def vV{d:Dn}(h:w.heap[g]?=Ts (Tq #[Ti Tl d.ses,Ti Tl d.ser,ag d.body.1,ag d.body.2] 68 (0,0)))(l):
  kI 170 #[UK (Ts ⟨g,0,U8⟩)] w l p4 (cI d):=
 ⟨Vv func170 Pg rfl,fun x _ W b=>AA d x g W (ai h b)⟩
def zm(s u v w)(h:gn w u v s)(hl:s.safe.length+s.opn.length<=100000000):VB UB 49 #[UT #[u,v]] w (zI s w):=by
 obtain⟨a,c,b,d,rfl,rfl⟩:=h.form;refine P4 h hl fun HS HLL=>P1 s.safe.length fun N hN=>P1 s.opn.length fun M hM=>P4 hN hM fun HN HM=>?_;rw[hN,hM]at HS hl⊢;refine P1 w.heap.size fun D C=>have HDD:=Tn C;P1 (w.alloc (Tq #[Tm a N c,Tm b M d] 42)) fun f ac=>have B:=Tn (show aq w f by rw[<-ac];exact af P0 _);have HP:Hid (f.heap[D]?=Ts (Tq #[Tm a N c,Tm b M d] 42 (0,0))):=Tn (PP ac C);PM HP fun c0 c1=>?_;go_enter func49,ntmps49;go_upto_region 1 with fail;try rw[ac]
 try rw[C]
 go_wp2_with fail;refine(LG s _ _ f (HS.ext B) HLL).mono ?_;rintro e t⟨r,acc,rfl,hac,hab,hE1⟩;refine PC (aa B hE1) (ai HP hE1) hab hac (jN (bk s)) fun T HP1 HAB HAC HCNT=>P1 ((aO (bk s)).map (·.1)) fun fr Q=>have Z:=Tn Q;?_;rw[Q]at HAC;have hrl:acc.length=fr.length:=by rw[<-HAC.out,VR]
 have hfl:fr.length<=5000000:=by
  have h1:=HCNT.out;have h2:(bk s).length=N+M:=by rw[dg,HN.out,HM.out]
  have A:fr.length=(aO (bk s)).length:=by rw[<-Q,VR]
  omega
 refine P1 fr.length fun n hn=>?_;rw[hn]at hrl hfl;have HNN:=Tn hn;obtain⟨ra,rc,hr,hrow⟩:∃ra rc,r=Tm ra n rc/\∀k p,acc[k]?=Ts p->∃g,ra=Ts ⟨g,0,U8⟩/\t.cell? ⟨g,k,U8⟩=Ts p.2:=by
  have ho:=hab.own;rw[hrl]at ho;rcases ho.2 with⟨am,e2⟩|⟨g,cap,cur,am,_⟩
  .exact⟨U8,0,by rw[am,e2],fun k p x=>by have:=(UU.1 x).1;omega⟩
  refine⟨Ts ⟨g,0,U8⟩,cap,am,fun k p x=>⟨g,rfl,?_⟩⟩;have:=ho.cells (g:=g) (by rw[am];rfl) k p.2 (by rw[VU,x];rfl);rwa[show((⟨g,0,U8⟩:VW).add k)=⟨g,k,U8⟩from Px]at this
 subst hr;have HROW:=Tn hrow;obtain⟨i0,hi,hz0,hz1,hz2⟩:=WN OV;go_wp2;go_loopw [18,2] (fun i l wr=>∃(k:Nat)(ds:List Dn),k<=n/\i=Ti Tl k/\er [] (fr.take k)=Ts ds/\wr.ownsRow t.heap.size 68 4 l ds.length (bP ds)/\Fr (fun b=>t.heap.size<=b) t wr) (fun i _ _=>n-(VS i).toNat)
 case atStart=>exact⟨0,[],VF _,rfl,FZ _,WO _ _ _ _,Fr.refl _ _⟩
 obtain⟨k,ds,o,rfl,htd,y,P⟩:=hrel;refine P3 htd y P fun HT HO HF=>?_;obtain⟨la,lc,hlv,k1,k2,hdn⟩:=uK rfl HO.out;subst hlv;refine P4 hdn (Mt HT) fun HDN ab=>have hDW:D<t.heap.size:=(UE.1 HP1).1;P4 (aM HP1 HF Ph) (T.trans (HF.below T.size (fun b hb=>VG T.size hb))) fun HPR HEW=>P1 ds.length fun m K=>have HM':=Tn K;?_;rw[K]at HO ab k1⊢;by_cases R:k<n
 .obtain⟨⟨X,uv⟩,x⟩:∃p,acc[k]?=Ts p:=⟨_,List.getElem?_eq_getElem Ph⟩;have Y:Hid (fr[k]?=Ts X):=Tn (by rw[<-HAC.out,VU,x];rfl);obtain⟨g,rfl,J⟩:=HROW.out k _ x;have hgl:g<t.heap.size:=aR J;have cw:wr.cell? ⟨g,k,U8⟩=Ts uv:=(HF.cell (p:=⟨g,k,U8⟩) hgl (by show¬t.heap.size<=g;omega)).trans J;have HBV:=Tn ((HAB.fr HF (fun q _ hq=>Ph)).row x)
  have HXL:Hid (X.length<=4096):=Tn (by
   have:=Y.out;rw[<-Z.out,VU]at this;cases hq:(aO (bk s))[k]? with
   |none=>rw[hq]at this;cases this
   |some q=>rw[hq]at this;cases this;exact(sH (Uv hq)).2.2.2)
  go_wp2_with fail;refine(J5 X uv wr HBV (by have:=HXL.out;omega)).mono ?_;rintro e w2⟨rfl,hE2⟩;have F:=Tn hE2;cases G:pY X with
  |false=>
   have HRV:Hid (oh X=UW #[UT #[Ti Tl 0,Ti Tl 0,Ti Tt 0,Ti Tt 0],U1 false]):=Tn (by unfold oh;rw[G];rfl);have HNO:Hid (cY (bk s)=U8):=Tn (by unfold cY;rw[Z.out];exact za HT Y (.inl G));rw[HRV.out];go_wp2;exact VC (v:=UW #[zz,U1 false,U1 false]) S4 rfl (by unfold zI;rw[HNO.out];exact⟨rfl,af (aa HEW F) _⟩)
  |true=>
   refine P1 (nu X) fun j hdd=>have HRV:Hid (oh X=UW #[UT #[Ti Tl j.ses,Ti Tl j.ser,ag j.body.1,ag j.body.2],U1 true]):=Tn (by unfold oh;rw[G,hdd];rfl);P4 hdd G fun I HRB=>?_;rw[HRV.out];go_wp2_with fail;refine P1 (w2.alloc (Tq #[Ti Tl j.ses,Ti Tl j.ser,ag j.body.1,ag j.body.2] 68)) fun O U=>P1 w2.heap.size fun G3 hG3=>have Id:Hid (aq wr O):=Tn (by rw[<-U];exact af F _);have HR3:Hid (O.heap[G3]?=Ts (Tq #[Ti Tl j.ses,Ti Tl j.ser,ag j.body.1,ag j.body.2] 68 (0,0))):=Tn (PP U hG3);?_;(try rw[U]);(try rw[hG3]);refine(qU j O).mono ?_;rintro e w4⟨rfl,H,hE4⟩;refine P3 hE4 H (aa Id hE4) fun HE4 HR4 HE4'=>?_;go_wp2_with fail;refine(sr 170 _ (cI j) ds la m lc w4 (vV HR4 ds) HM' (by have:=ab.out;omega) k1 (HDN.ext HE4')).mono ?_;rintro e w5⟨rfl,hE5⟩;refine P4 (aa HE4' hE5) (ai HR3 (aa HE4 hE5)) fun W V=>?_;cases E:ds.any (cI j)with
   |true=>
    have HNO:Hid (cY (bk s)=U8):=Tn (by unfold cY;rw[Z.out];exact za HT Y (.inr (by rw[I.out];exact E)));go_wp2;exact VC (v:=UW #[zz,U1 false,U1 false]) S4 rfl (by unfold zI;rw[HNO.out];exact⟨rfl,aa HEW W⟩)
   |false=>
    have HNX:Hid (er [] (fr.take (k+1))=Ts (ds++[j])):=Tn (by have:=KI HT Y HRB (by rw[I.out];exact E);rwa[I.out]at this);refine PR V fun b0 b1 b2 b3=>have HO5:=Tn (eM HO (Uh (S:=fun _=>False) W) (fun _ _ h=>h));have hsz:t.heap.size<=w5.heap.size:=VG HF.size W.size;?_
    go_wp2_with (
           at_builtin
           refine aX rfl _ _ 40 rfl t.heap.size 68 i0 (UT #[Ti Tl 0,Ti Tl 0,Ti Tt 0,Ti Tt 0]) 4 32 underlying40 hi hz0 hz1 hz2 rfl Pi _ m (bP ds) rfl (HO5.alloc _) (Ts ⟨w5.heap.size,0,U8⟩) 1 1 [Ti Tl j.ses,Ti Tl j.ser,ag j.body.1,ag j.body.2] rfl rfl (by intro ad had;cases had;exact cQ w5 [Ti Tl j.ses,Ti Tl j.ser,ag j.body.1,ag j.body.2] _) (fun e=>RH) Q6 (by unfold VL;have:=ab.out;omega) (by have:=ab.out;omega) Q9 ?_
           intro v6 w6 L z
           refine P4 L z fun HO6 HG6=>?_
           clear L z)
    go_roundw
    case rel=>
     refine⟨k+1,ds++[j],Ph,Pt,HNX,?_,(HF.trans (Uh W)).trans ((Fr.alloc _ w5 _).trans ((Fr.grown HG6).mono fun b _ e=>bE HO5 b e))⟩;rw[jP,Uo,List.length_singleton,HM'.out];exact HO6.out
    case measure=>simp[VS];omega
 obtain rfl:k=n:=by omega
 have HTF:Hid (cY (bk s)=Ts ds):=Tn (by unfold cY;rw[Z.out];exact NI HT Zac);refine P1 (eE (aO (bk s))) fun gd hgd=>?_
 have HWB:Hid (iG (bk s)=((gd:Int)==(N:Int)+(M:Int))):=Tn (by
  unfold iG;rw[hgd,dg,HN.out,HM.out];rw[Bool.eq_iff_iff];simp only[beq_iff_eq]
  omega)
 refine PM HPR fun c0 c1=>have hwr:Tl.wrap ((N:Int)+(M:Int))=(N:Int)+(M:Int):=IntWalk.i64_in _ Ph;?_;rw[hgd];go_upto_region 10 with fail;refine aZ Pg Pg (fun w'=>aq wr w') (ap _) ?_;repeat
  (first|refine az rfl rfl rfl rfl ?_|refine aF rfl rfl rfl rfl ?_|refine aw rfl ?_|refine aj rfl rfl rfl rfl rfl ?_|((first|refine av (v:=?_) rfl rfl (fun hb w' hS=>?_) ?_|refine ar (v:=?_) rfl rfl rfl (fun hb1 hb w' hS=>?_) ?_|refine ax (v:=?_) rfl (fun w' hS=>?_) ?_);rotate_left;(focus(have f0:=ae c0 hS;have f1:=ae c1 hS;unfold ak;go_simp;first|exact aD hS))))
  simp only[Ua,P7]
 refine aA fun w' hE'=>have HE':=Tn hE';?_;go_wp2_with fail;have y:=(eM HO (Uh (S:=fun _=>False) HE') (fun _ _ h=>h)).mono (base':=w.heap.size) T.size;exact VC (v:=UW #[Tm la m lc,U1 ((gd:Int)==(N:Int)+(M:Int)),U1 true]) S4 rfl (by unfold zI;rw[HTF.out];exact⟨_,by rw[HWB.out],by rw[HM'.out];exact y,aa HEW HE'⟩)
def oI(s:dp)(x:gy):Array UV:=#[Ti Tl s.share.id,ag s.share.x,U1 s.bad,U1 s.up,Tm x.da s.done.length x.dc,x.u,x.v]
def eo(s x w)(h:dQ w s x)(P:s.done.length<=1000000000):VB UB 15 #[eK s x] w (bM (Ti Tl (bJ s)) w):=by
 obtain⟨⟨m,sx⟩,bad,up,done,sto⟩:=s;obtain⟨da,dc,u,v⟩:=x;have z:=h.sto;obtain⟨a,c,b,d,X,hv⟩:=z.form;dsimp only at X hv z P;subst X;subst hv;refine P4 z h.done fun HS HD=>have Q:=h.dl;?_;unfold eK;dsimp only at HD Q⊢;refine P1 sto.safe.length fun N hN=>P1 sto.opn.length fun M hM=>P1 done.length fun K H=>P3 hN hM H fun HN HM HK=>?_;rw[hN,hM]at HS⊢;rw[H]at P Q⊢;have g:Hid (bJ ⟨⟨m,sx⟩,bad,up,done,sto⟩=if gH sto≠0 then gH sto else if !kr ⟨m,sx⟩||(!up&& !done.isEmpty)then 1 else if up&& !(iG (bk sto)&&(cY (bk sto)==Ts done))then 1 else 0):=Tn rfl;refine P1 w.heap.size fun D C=>P1 (w.alloc (Tq #[Ti Tl m,ag sx,U1 bad,U1 up,Tm da K dc,Tm a N c,Tm b M d] 44)) fun f J=>have B:=Tn (show aq w f by rw[<-J];exact af P0 _);have HP:Hid (f.heap[D]?=Ts (Tq #[Ti Tl m,ag sx,U1 bad,U1 up,Tm da K dc,Tm a N c,Tm b M d] 44 (0,0))):=Tn (PP J C);PZ HP fun c5 c6=>?_;go_enter func15,ntmps15;go_upto_region 1 with fail;try rw[J]
 try rw[C]
 go_wp2_with fail;refine P2 (jZ sto _ _ f (HS.ext B)) fun t q=>P4 (aa B q) (ai HP q) fun U o=>?_;have hE':gH sto=2\/gH sto=0/\N+M<=65536:=by
  rw[<-HN.out,<-HM.out];unfold gH;split<;>omega
 rcases hE' with S|⟨S,hsm⟩
 .have Z:Hid (bJ ⟨⟨m,sx⟩,bad,up,done,sto⟩=2):=Tn (by rw[g.out,S];rfl);rw[S];go_wp2;go_ret;exact⟨Ps,U⟩
 rw[S]at g⊢;have c0:=Uc t D 0 _ _ _ o;have c1:=Uc t D 1 _ _ _ o;have c3:=Uc t D 3 _ _ _ o;have c4:=Uc t D 4 _ _ _ o;go_wp2_with fail;refine P2 (vG ⟨m,sx⟩ t) fun I R=>P4 (aa U R) (ai o R) fun F p=>?_;cases E:kr ⟨m,sx⟩with
 |false=>
  have Z:Hid (bJ ⟨⟨m,sx⟩,bad,up,done,sto⟩=1):=Tn (by rw[g.out,E];rfl);exact U4
 |true=>
  rw[E]at g;have c3:=Uc I D 3 _ _ _ p;have c4:=Uc I D 4 _ _ _ p;have c5:=Uc I D 5 _ _ _ p;have c6:=Uc I D 6 _ _ _ p;cases up with
  |false=>
   by_cases ab:K=0
   .subst ab;have Z:Hid (bJ ⟨⟨m,sx⟩,bad,false,done,sto⟩=0):=Tn (by rw[g.out,VA HK.out];rfl);exact U4
   have Z:Hid (bJ ⟨⟨m,sx⟩,bad,false,done,sto⟩=1):=Tn (by
    rw[g.out,if_neg Pi,if_pos];cases done with
    |nil=>exact absurd HK.out.symm ab
    |cons y l=>rfl)
   have hK1:(0:Int)<(K:Int):=Ph;exact U4
  |true=>
   go_wp2_with fail;refine(zm sto _ _ I (HS.ext F) (by rw[HN.out,HM.out];omega)).mono ?_;intro e O hT;have HT:=Tn hT;have A:=HT.out;unfold zI at A;cases j:cY (bk sto)with
   |none=>
    rw[j]at A;obtain⟨rfl,V⟩:=A;have Z:Hid (bJ ⟨⟨m,sx⟩,bad,true,done,sto⟩=1):=Tn (by rw[g.out,j,if_neg Pi,if_neg Pm,if_pos Pm]);have Id:=Tn (aa F V);exact UI
   |some l=>
    rw[j]at A;obtain⟨vl,rfl,r,V⟩:=A;obtain⟨la,lc,hlv,k1,k2,Y⟩:=uK rfl r;subst hlv;refine PC (aa F V) (ai p V) Y (zS j) (jN (bk sto)) fun Id HP3 HDN HLL HCN=>have HAL:Hid ((bk sto).length=N+M):=Tn (by rw[dg,HN.out,HM.out]);?_;rw[j]at g;have c4:=Uc O D 4 _ _ _ HP3;cases L:iG (bk sto)with
    |false=>
     have Z:Hid (bJ ⟨⟨m,sx⟩,bad,true,done,sto⟩=1):=Tn (by rw[g.out,L,if_neg Pi,if_neg Pm,if_pos Pm]);exact UI
    |true=>
     rw[L]at g;go_wp2_with fail;refine(OL l done la da l.length lc K dc O rfl HK.out (by have:=HLL.out;have:=HCN.out;have:=HAL.out;omega) P k1 Q HDN (HD.ext Id)).mono ?_;rintro e W4⟨rfl,T⟩;have W:=Tn (aa Id T);cases G:(l==done)with
     |false=>
      have Z:Hid (bJ ⟨⟨m,sx⟩,bad,true,done,sto⟩=1):=Tn (by
       rw[g.out,if_neg Pi,if_neg Pm,if_pos]
       rw[show(Ts l==Ts done)=(l==done)from rfl,G];rfl)
      go_wp2;go_ret;exact⟨Ps,W⟩
     |true=>
      have Z:Hid (bJ ⟨⟨m,sx⟩,bad,true,done,sto⟩=0):=Tn (by
       rw[g.out,if_neg Pi,if_neg Pm,if_neg]
       rw[show(Ts l==Ts done)=(l==done)from rfl,G];simp)
      go_wp2;go_ret;exact⟨Ps,W⟩
def ga(e:Int):Xo:= .panicked [{v:= .iface 184 (UT #[Ti Tl e]),recovered:=false}]
def p8(w:UN):VB UB 33 #[Ti Tl 0] w (fun e b=>e=UO (UW #[])/\b=w):=by
 go_enter func33,ntmps33;exact Ux
def j6(k)(o:k≠0)(w:UN):VB UB 33 #[Ti Tl k] w (fun e b=>e=ga k/\b=w):=by
 unfold ga;go_enter func33,ntmps33;exact Zb9
def Dw(s)(w:UN)(z:kr s=true):VB UB 7 #[UT #[Ti Tl s.id,ag s.x]] w (bM (UW #[UT #[Ti Tl s.id,ag s.x,U1 false,U1 true,zz,zz,zz],Ti Tl 0]) w):=by
 refine P1 w.heap.size fun D C=>have p:=Tn C;P1 ((w.alloc (Tq #[Ti Tl s.id,ag s.x] 39)).alloc (Tq #[Ti Tl 0,Ti Tt 0,U1 false,U1 false,zz,zz,zz] 44)) fun f d=>have B:=Tn (show aq w f from Pz);have r:Hid (f.heap[D]?=Ts (Tq #[Ti Tl s.id,ag s.x] 39 (0,0))):=Tn (by rw[<-d,<-C];exact(Below.heap_alloc _ _ _ Pm).trans (UZ _ _));have Z:Hid (f.heap[D+1]?=Ts (Tq #[Ti Tl 0,Ti Tt 0,U1 false,U1 false,zz,zz,zz] 44 (0,0))):=Tn (by rw[<-d,<-C];have:=UZ (w.alloc (Tq #[Ti Tl s.id,ag s.x] 39)) (Tq #[Ti Tl 0,Ti Tt 0,U1 false,U1 false,zz,zz,zz] 44);rwa[Ud]at this);PM r fun c0 c1=>have m:=Tn z;?_;go_enter func7,ntmps7;go_upto_region 1 with fail;try rw[d]
 try rw[C]
 go_wp2_with fail;refine P2 (vG s f) fun t q=>?_;rw[m.out];refine P3 (aa B q) (ai r q) (ai Z q) fun c j g=>PM j fun c0 c1=>?_;go_upto_region 3 with fail;(iterate 3 go_step;go_simp;go_step);refine WS rfl _ _ _ rfl (D+1) #[Ti Tl s.id,ag s.x,U1 false,U1 true,zz,zz,zz] rfl rfl 44 _ g Pg Q8 Q6 ?_;refine P1 (t.setRow (D+1) #[Ti Tl s.id,ag s.x,U1 false,U1 true,zz,zz,zz]) fun V l=>?_;rw[l];have b:V.heap[D+1]?=Ts (Tq #[Ti Tl s.id,ag s.x,U1 false,U1 true,zz,zz,zz] 44 (0,0)):=by rw[<-l];exact Z4 t (D+1) _ _ _ _ g
 have F:Hid (Fr (fun k=>k=D+1) t V):=Tn (by rw[<-l];exact bH _ _ _);refine PX b fun q0 q1 q2 E u A y=>?_;go_wp2;exact VC (v:=UW #[UT #[Ti Tl s.id,ag s.x,U1 false,U1 true,zz,zz,zz],Ti Tl 0]) (by simp[Vo,results7,go_sem,q0,q1,q2,E,u,A,y]) rfl ⟨rfl,c.trans (F.below c.size (fun k o=>by have:=p.out;omega))⟩
section
def oo(w:UN)(B:Nat):Prop:=(∀(j:Nat)(c:Int),w.cell? ⟨B,j,U8⟩≠Ts (Ti Uy c))/\∀(j:Nat)(x y:Int),w.cell? ⟨B,j,U8⟩=Ts (Ti Tl x)->w.cell? ⟨B,j+1,U8⟩≠Ts (Ti Tl y)
def IQ{B l}(h:Kz w a l)(P:Fr (fun i=>i=B) w d)(f:oo w B):Kz d a l:=fun i x m=>by
 obtain⟨b,off,g,L,h1,c,A⟩:=h i x m;have hb:b≠B:=by rintro rfl;exact f.2 _ _ _ L h1
 exact⟨b,off,g,(P.cell (p:=⟨b,_,U8⟩) (aR L) hb).trans L,(P.cell (p:=⟨b,_,U8⟩) (aR h1) hb).trans h1,(P.cell (p:=⟨b,_,U8⟩) (aR c) hb).trans c,(P.cell (p:=⟨b,_,U8⟩) (aR A) hb).trans A⟩
def AI{l}(h:Kz w a l)(m:nL w a l)(P:Fr S w c)(f:∀B,S B->oo w B):nL c a l:=m.fr P fun p x g d=>by
 cases l with
 |nil=>exact g rfl
 |cons y l=>
  obtain⟨b,off,j,L,h1,_⟩:=h 0 y rfl;cases x.symm.trans j;exact(f _ d).2 _ _ _ L h1
def qg.off{B l}(h:qg w a l)(P:Fr (fun i=>i=B) w b)(c:oo w B):qg b a l:=⟨IQ h.1 P c,AI h.1 h.2 P (fun _ e=>e▸c)⟩
def dQ.off{B s x}(h:dQ w s x)(P:Fr (fun i=>i=B) w b)(c:oo w B):dQ b s x:=⟨IQ h.done P c,h.dl,h.dm,h.sto.off P c.1,AI h.done h.typ P (fun _ e=>e▸c)⟩
def Dg{s:au}(h:aJ w v s)(P:Fr S w d)(f:∀B,S B->oo w B):aJ d v s:=by
 obtain⟨a,c,rfl,h1,g,A⟩:=h;refine⟨a,c,rfl,h1,g,fun i x m=>?_⟩;obtain⟨b,o,rfl,J⟩:=A i x m;exact⟨b,o,rfl,(P.cell (p:=⟨b,o+i,U8⟩) (aR J) (fun e=>(f b e).1 (o+i) _ J)).trans J⟩
def dQ.offS{f s x}(h:dQ w s x)(P:Fr S w f)(d:∀B,S B->oo w B):dQ f s x:=⟨fun i y U=>by
 obtain⟨b,off,g,L,h1,c,A⟩:=h.done i y U
 have hb:¬S b:=fun e=>(d b e).2 _ _ _ L h1
 exact⟨b,off,g,(P.cell (p:=⟨b,_,U8⟩) (aR L) hb).trans L,(P.cell (p:=⟨b,_,U8⟩) (aR h1) hb).trans h1,(P.cell (p:=⟨b,_,U8⟩) (aR c) hb).trans c,(P.cell (p:=⟨b,_,U8⟩) (aR A) hb).trans A⟩,h.dl,h.dm,⟨Dg h.sto.safe P d,Dg h.sto.opn P d⟩,AI h.done h.typ P d⟩
def ej{B}{d:Int}{dc b l bad up f o}(u:w.heap[B]?=Ts (Tq #[Ti Tl d,ag sx,U1 bad,U1 up,Tm da n dc,Tm f b l,Tm o g m] T (0,0))):oo w B:=by
 constructor
 .intro j c;exact Zcj
 intro j x y;exact Zcj
def nq{B}{x:Int}(u:w.heap[B]?=Ts (Tq #[Ti Tl x,ag y] T (0,0))):oo w B:=by
 constructor
 .intro j c;exact Zcx
 intro j x y;exact Zcx
def af3{B}{x:Int}(u:w.heap[B]?=Ts (Tq #[Ti Tl x] T (0,0))):oo w B:=by
 constructor
 .intro j c;unfold Wc;rw[u];rcases j with _|j<;>simp
 intro j x y;unfold Wc;rw[u];rcases j with _|j<;>simp
def ajN(D:Nat)(k:Int)(d:dp)(c:bq)(W:UN)(e:Xo)(b:UN):Prop:=Fr (fun i=>i=D) W b/\(k≠0->e=ga k)/\(k=0->e=UO (UT #[Ti Tl c.id,ag c.x])/\∃x',b.heap[D]?=Ts (Tq (oI d x') 44 (0,0))/\dQ b d x')
def Ot(F:FuncId)(b:Array UV)(w:UN)(s:dp)(x:gy)(k:Int)(d:dp)(c:bq):Prop:=(∀args w,(callFunc F args).run UB w= .ok (.enter F args) w)/\
 ∀(W:UN)(D:Nat),aq w W->w.heap.size<=D->W.heap[D]?=Ts (Tq (oI s x) 44 (0,0))->VB UB F (#[UK (Ts ⟨D,0,U8⟩)]++b) W (ajN D k d c W)
def pU(k:Int)(d:dp)(c:bq)(w:UN)(e:Xo)(b:UN):Prop:=aq w b/\(k≠0->e=UO (UW #[UT #[Ti Tl 0,Ti Tt 0,U1 false,U1 false,zz,zz,zz],UT #[Ti Tl 0,Ti Tt 0],Ti Tl k]))/\
 (k=0->∃x',e=UO (UW #[eK d x',UT #[Ti Tl c.id,ag c.x],Ti Tl 0])/\dQ b d x')
def fk(s:dp)(up:Bool)(k:Int):Int:=if bJ s≠0 then bJ s else if s.up≠up then 221 else k
def qI{k x c}{p s y q l t z0 m ev a0 a1:UV}(h1:wr.heap[D+1]?=Ts (Tq #[p,z,s,y,q,l,t] 44 (0,0)))(G:wr.heap[D+2]?=Ts (Tq #[z0,m] 39 (0,0)))(A:wr.heap[D+3]?=Ts (Tq #[ev] 34 (0,0)))(g:aq w wr)(C:w.heap.size=D)(o:k≠0):
  bodyPostD UB f30 (pU k x c w) (Exit.panic [{v:= .iface 184 (UT #[Ti Tl k]),recovered:=false}])
   {tmps:=#[a0,a1,a2,a3,a4,a5,UK (Ts ⟨D+1,0,U8⟩),UK (Ts ⟨D+2,0,U8⟩),UK (Ts ⟨D+3,0,U8⟩),a9,a10,a11,a12,a13,a14,a15,a16,a17,a18,a19,a20,a21],defers:=[{target:=Target.fn (Fn.func 94) #[UK (Ts ⟨D+1,0,U8⟩),UK (Ts ⟨D+2,0,U8⟩),UK (Ts ⟨D+3,0,U8⟩)],args:=#[]}]} wr:=by
 refine leaves_cons (f:=94) (args:=#[UK (Ts ⟨D+1,0,U8⟩),UK (Ts ⟨D+2,0,U8⟩),UK (Ts ⟨D+3,0,U8⟩)]) Pm Zaz ?_;refine(Cx (D+1) (D+2) (D+3) k p z s y q l t z0 m ev [] wr h1 G A Ph Ph Ph).mono ?_;rintro e L b⟨rfl,rfl,d,r,E,P⟩;refine PX d fun q0 q1 q2 I B H F=>PM r fun K J=>have t0:=Uc b (D+3) 0 _ _ _ E;have j:aq w b:=((Uh (S:=fun _=>False) g).onto P (fun i hi e=>by rcases e with e|e|e<;>omega)).ext (fun _ _ h=>h);have u:pU k x c w (UO (UW #[UT #[Ti Tl 0,Ti Tt 0,U1 false,U1 false,zz,zz,zz],UT #[Ti Tl 0,Ti Tt 0],Ti Tl k])) b:=⟨j,fun _=>rfl,fun h=>absurd h o⟩;?_;simp[Leaves,settle,Vo,results30,go_sem,q0,q1,q2,I,B,H,F,K,J,t0,u]
def Jm{d x'}{c:bq}{a0 a1:UV}(h1:wr.heap[D+1]?=Ts (Tq (oI d x') 44 (0,0)))(l:wr.heap[D+2]?=Ts (Tq #[Ti Tl c.id,ag c.x] 39 (0,0)))(A:wr.heap[D+3]?=Ts (Tq #[Ti Tl 0] 34 (0,0)))(g:aq w wr)(q:dQ wr d x'):
  bodyPostD UB f30 (pU 0 d c w) Exit.ret
   {tmps:=#[a0,a1,a2,a3,a4,a5,UK (Ts ⟨D+1,0,U8⟩),UK (Ts ⟨D+2,0,U8⟩),UK (Ts ⟨D+3,0,U8⟩),a9,a10,a11,a12,a13,a14,a15,a16,a17,a18,a19,a20,a21],defers:=[{target:=Target.fn (Fn.func 94) #[UK (Ts ⟨D+1,0,U8⟩),UK (Ts ⟨D+2,0,U8⟩),UK (Ts ⟨D+3,0,U8⟩)],args:=#[]}]} wr:=by
 refine leaves_cons (f:=94) (args:=#[UK (Ts ⟨D+1,0,U8⟩),UK (Ts ⟨D+2,0,U8⟩),UK (Ts ⟨D+3,0,U8⟩)]) Pm Zaz ?_;refine(Dt (D+1) (D+2) (D+3) wr).mono ?_;rintro e z b⟨rfl,rfl,rfl⟩;obtain⟨⟨j,sx⟩,bad,up,done,sto⟩:=d;obtain⟨da,dc,u,v⟩:=x';unfold oI at h1;dsimp only at h1;refine PX h1 fun q0 q1 q2 s y p o=>PM l fun t m=>have t0:=Uc b (D+3) 0 _ _ _ A;have r:pU 0 ⟨⟨j,sx⟩,bad,up,done,sto⟩ c w (UO (UW #[UT #[Ti Tl j,ag sx,U1 bad,U1 up,Tm da done.length dc,u,v],UT #[Ti Tl c.id,ag c.x],Ti Tl 0])) b:=⟨g,fun h=>absurd rfl h,fun _=>⟨_,rfl,q⟩⟩;?_;simp[Leaves,settle,Vo,results30,go_sem,q0,q1,q2,s,y,p,o,t,m,t0,r]
section
attribute [local irreducible] ak aN
def JP(d:Int)(sx:Nat)(bad:Bool)(up:Bool)(da:Option VW)(n:Nat)(dc:Nat)(g:Option VW)(b:Nat)(j:Nat)(m:Option VW)(f:Nat)(l:Nat)(c:bq):List (UV->UN->Prop):=
 [ev (UT #[Ti Tl d,ag sx,U1 bad,U1 up,Tm da n dc,Tm g b j,Tm m f l]),
  ev (UT #[Ti Tl c.id,ag c.x]),
  tv,
  tv,
  tv]
def Nz(d:Int)(sx:Nat)(bad:Bool)(up:Bool)(da:Option VW)(n:Nat)(dc:Nat)(g:Option VW)(b:Nat)(j:Nat)(m:Option VW)(f:Nat)(l:Nat)(c:bq):List (UV->UN->Prop):=
 JP d sx bad up da n dc g b j m f l c
def Oj(V:UN)(D:Nat)(c:Int)(sx:Nat)(bad:Bool)(up:Bool)(da:Option VW)(n:Nat)(dc:Nat)(d:Option VW)(b:Nat)(g:Nat)(l:Option VW)(f:Nat)(j:Nat)(w:UN):Prop:=w.heap[D+1]?=Ts (Tq #[Ti Tl c,ag sx,U1 bad,U1 up,Tm da n dc,Tm d b g,Tm l f j] 44 (0,0))/\Fr (fun i=>i=D+1) V w
def aa0(d:Int)(sx:Nat)(bad:Bool)(up:Bool)(da:Option VW)(n:Nat)(dc:Nat)(g:Option VW)(b:Nat)(j:Nat)(m:Option VW)(f:Nat)(l:Nat)(c:bq):List (UV->UN->Prop):=
 Nz d sx bad up da n dc g b j m f l c
def aeC(V:UN)(D:Nat)(d:Int)(sx:Nat)(bad:Bool)(up:Bool)(da:Option VW)(n:Nat)(dc:Nat)(f:Option VW)(b:Nat)(j:Nat)(m:Option VW)(g:Nat)(l:Nat)(c:bq)(w:UN):Prop:=w.heap[D+1]?=Ts (Tq #[Ti Tl d,ag sx,U1 bad,U1 up,Tm da n dc,Tm f b j,Tm m g l] 44 (0,0))/\w.heap[D+2]?=Ts (Tq #[Ti Tl c.id,ag c.x] 39 (0,0))/\Fr (fun i=>i=D+1\/i=D+2) V w
def ai0(d:Int)(sx:Nat)(bad:Bool)(up:Bool)(da:Option VW)(n:Nat)(dc:Nat)(g:Option VW)(b:Nat)(j:Nat)(m:Option VW)(f:Nat)(l:Nat)(c:bq):List (UV->UN->Prop):=
 aa0 d sx bad up da n dc g b j m f l c
def aeM(V:UN)(D:Nat)(d:Int)(sx:Nat)(bad:Bool)(up:Bool)(da:Option VW)(n:Nat)(dc:Nat)(f:Option VW)(b:Nat)(j:Nat)(m:Option VW)(g:Nat)(l:Nat)(c:bq)(w:UN):Prop:=w.heap[D+1]?=Ts (Tq #[Ti Tl d,ag sx,U1 bad,U1 up,Tm da n dc,Tm f b j,Tm m g l] 44 (0,0))/\w.heap[D+2]?=Ts (Tq #[Ti Tl c.id,ag c.x] 39 (0,0))/\w.heap[D+3]?=Ts (Tq #[Ti Tl 0] 34 (0,0))/\Fr (fun i=>i=D+1\/i=D+2\/i=D+3) V w
end
def pg(s x up F caps k s' c w)(h:dQ w s x)(hdl:s.done.length<=1000000000)(cf:Ot F caps w s x k s' c):
  VB UB 30 #[eK s x,U1 up,.func (.func F) #[] caps] w (pU (fk s up k) s' c w):=by
 obtain⟨eg,hdo⟩:=cf;have HC:=Tn (fun W(g:aq w W)=>eo s x W (h.ext g) hdl);refine P1 (bJ s) fun kc hkc=>have HKC:=Tn hkc;?_;rw[hkc]at HC;obtain⟨⟨si,sx⟩,bad,ab,done,sto⟩:=s;obtain⟨da,dc,u,v⟩:=x;obtain⟨ua,uc,va,vc,X,hv⟩:=h.sto.form;dsimp only at X hv;subst X hv;have HK:Hid (fk ⟨⟨si,sx⟩,bad,ab,done,sto⟩ up k=if kc≠0 then kc else if ab≠up then 221 else k):=Tn (by unfold fk;rw[hkc]);refine P1 (fk ⟨⟨si,sx⟩,bad,ab,done,sto⟩ up k) fun K H=>?_;rw[H]at HK⊢;have HDO:=Tn hdo;unfold eK at HC⊢;dsimp only at HC⊢;refine P1 w.heap.size fun D C=>have ac:=Tn C;P1 (dX w [Tq #[Ti Tl si,ag sx,U1 bad,U1 ab,Tm da done.length dc,Tm ua sto.safe.length uc,Tm va sto.opn.length vc] 44,Tq #[Ti Tl 0,Ti Tt 0,U1 false,U1 false,zz,zz,zz] 44,Tq #[Ti Tl 0,Ti Tt 0] 39,Tq #[Ti Tl 0] 34]) fun f No=>have d:=No;?_;simp only[dX]at d;refine PC (bZ No) (ei No C) (bW No C 1 rfl) (bW No C 2 rfl) (bW No C 3 rfl) fun HEW0 Y HP1 HP2 HP3=>PX Y fun c0 c1 c2 c3 c4 c5 c6=>?_;go_enter_defers func30,ntmps30
 go_upto_region 1 with fail;try rw[d]
 try rw[C]
 go_wp2_with fail;refine P2 (HC f HEW0) fun t q=>PC (aa HEW0 q) (ai Y q) (ai HP1 q) (ai HP2 q) (ai HP3 q) fun HE1 HQ0 HQ1 HQ2 HQ3=>?_;by_cases hk0:kc=0
 .subst hk0;have c2:=Uc t D 2 _ _ _ HQ0;have c3:=Uc t D 3 _ _ _ HQ0;go_wp2_with fail;refine P2 (p8 t) fun w2 h2=>have h2':=h2.symm;?_;subst h2';by_cases X:ab=up
  .subst X;go_wp2_with fail;refine(HDO t D HE1 (by have:=ac.out;omega) HQ0).mono ?_;rintro e W5⟨al,hno,hyes⟩;refine P5 (aM HQ1 al Ph) (aM HQ2 al Ph) (aM HQ3 al Ph) (HE1.trans (al.below HE1.size (fun i hi=>by have:=ac.out;have e':i=D:=hi;omega))) fun HT1 ad HT3 HE5=>have HKZ:Hid (K=k):=Tn (by rw[HK.out,if_neg Pm,if_neg Pm]);?_;by_cases o:k=0
   .obtain⟨rfl,x',ah,hC'⟩:=hyes o;subst o;have HC':=Tn hC';obtain⟨⟨P,T⟩,G,N,m,l⟩:=s';obtain⟨M,J,u',v'⟩:=x';obtain⟨S,Q,O,R,X,hv⟩:=hC'.sto.form;dsimp only at X hv;subst X hv;unfold oI at ah;dsimp only at ah;have HRW:=Tn ah;refine PM ad fun e0 am=>PO ad fun fz0 fz1=>have j:=Tn (dt ad (Ti Tl c.id) (ag c.x));PI W5 (D+2) (Ti Tl c.id) (ag c.x) fun V6 hV6=>?_;rw[hV6]at j;go_upto_region 6 with fail;(try rw[hV6]);refine PG (aM HRW j.2 Ph) (aM HT1 j.2 Ph) j.out.1 (aM HT3 j.2 Ph) (HC'.off j.2 (nq (y:=0) ad)) (HE5.trans (j.2.below HE5.size (fun i hi=>by have:=ac.out;have e':i=D+2:=hi;omega))) HKZ.out fun HW0 HW1 HW2 HW3 HCV HE6 HKZ0=>?_;have X0:EX (JP P T G N M m.length J S l.safe.length Q O l.opn.length R c):=by repeat first|exact Gl|refine EC ?_|refine Gx ?_
    have X1:EX (Nz P T G N M m.length J S l.safe.length Q O l.opn.length R c):=X0;have X2:EX (aa0 P T G N M m.length J S l.safe.length Q O l.opn.length R c):=X1;refine(WV (n:=0)).1 ?_;refine bu (r:=U8) 5 [2,3,4] [cT,(false,0,1),(true,0,0),(true,1,0),(true,2,0)] [Ts 20,Ts 21,U8,U8,U8] Pg Pg Pg [aq V6,Oj V6 D P T G N M m.length J S l.safe.length Q O l.opn.length R,aeC V6 D P T G N M m.length J S l.safe.length Q O l.opn.length R c,aeM V6 D P T G N M m.length J S l.safe.length Q O l.opn.length R c] (BY yk (by rintro w b⟨L,h1⟩g;exact⟨ai L g,h1.trans (Uh g)⟩) (by rintro w b⟨L,h1,h2⟩g;exact⟨ai L g,ai h1 g,h2.trans (Uh g)⟩) (by rintro w b⟨L,h1,h2,A⟩g;exact⟨ai L g,ai h1 g,ai h2 g,A.trans (Uh g)⟩)) [JP P T G N M m.length J S l.safe.length Q O l.opn.length R c,Nz P T G N M m.length J S l.safe.length Q O l.opn.length R c,aa0 P T G N M m.length J S l.safe.length Q O l.opn.length R c,ai0 P T G N M m.length J S l.safe.length Q O l.opn.length R c] (BY X0 X1 X2 (X2)) ?k0 ?steps ?fin
    case k0=>exact ap V6
    case steps=>
     refine⟨?_,?_,?_,?_,?_,trivial⟩
     .intro s vs b hlo hhi p H Z;obtain rfl:s=0:=Ph;have I:Hid (aq V6 b):=H;simp only[aK];have HL:=Tn p;have E:=ai HW0 I;exact PX E fun c0 c1 c2 c3 c4 c5 c6=>Td
     .intro s vs b hlo hhi p H Z;have z:s=0\/s=1:=Ph;rcases z with rfl|rfl
      .have I:Hid (aq V6 b):=H;simp only[aK,Xp,Ua,P7];have HL:=Tn p;have E:=ai HW2 I;exact PM E fun c0 c1=>Td
      have o:=H;simp only[PW,Oj]at o;refine P4 o.1 o.2 fun I V=>?_;simp only[aK,Xp,Ua,P7];have HL:=Tn p;have E:=aM HW2 V Ph;exact PM E fun c0 c1=>Td
     .intro vs b p H Z;have I:Hid (aq V6 b):=H;have t9:=Z 0 Pi Pg;simp only[Xp,JP]at t9;simp only[aK,Ua,PV];(try rw[t9]);refine P4 t9 p fun Kh_0 HL=>have E:=ai HW1 I;have j:=Tn (cu E (Ti Tl P) (ag T) (U1 G) (U1 N) (Tm M m.length J) (Tm S l.safe.length Q) (Tm O l.opn.length R));PX E fun e0 am e2 e3 e4 e5 e6=>PY E fun fz0 fz1 fz2 fz3 fz4 fz5 fz6=>bg fun Post hP=>have HP:=Tn hP;?_;unfold aN;go_simp;refine HP.out _ _ ⟨⟨j.1,(Uh I).trans j.2⟩,trivial,TR.go Bt⟩
     .intro vs b p H Z;have o:=H;simp only[PW,Oj]at o;refine P4 o.1 o.2 fun I V=>have t9:=Z 0 Pi Pg;have U:=Z 1 Pi Pg;?_;simp only[Ua,PV,Nz,JP]at t9 U;simp only[aK,Ua,PV];(try rw[t9]);(try rw[U]);refine P3 t9 U p fun Kh_0 Kh_1 HL=>have E:=aM HW2 V Ph;have j:=Tn (dt E (Ti Tl c.id) (ag c.x));PM E fun e0 am=>PO E fun fz0 fz1=>bg fun Post hP=>have HP:=Tn hP;?_;unfold aN;go_simp;refine HP.out _ _ ⟨⟨aM I j.2 Ph,j.1,(V.mono fun _ _ e=>WQ e).trans (j.2.mono fun _ _ e=>Or.inr e)⟩,trivial,TR.go Bt⟩
     intro vs b p H Z;have o:=H;simp only[PW,aeC]at o;refine P3 o.1 o.2.1 o.2.2 fun I V HK2=>have t9:=Z 0 Pi Pg;have U:=Z 1 Pi Pg;?_;simp only[Ua,PV,aa0,Nz,JP]at t9 U;simp only[aK,Ua,PV];(try rw[t9]);(try rw[U]);refine P3 t9 U p fun Kh_0 Kh_1 HL=>have E:=aM HW3 HK2 Ph;have j:=Tn (CG E (Ti Tl 0));have e0:=Uc b (D+3) 0 _ _ _ E;have fz0:=VQ b (D+3) 0 _ _ E;bg fun Post hP=>have HP:=Tn hP;?_;unfold aN;go_simp;refine HP.out _ _ ⟨⟨aM I j.2 Ph,aM V j.2 Ph,j.1,(HK2.mono fun _ _ e=>e.elim WQ (fun e=>Or.inr (WQ e))).trans (j.2.mono fun _ _ e=>Or.inr (Or.inr e))⟩,trivial,TR.go Bt⟩
    intro vs b p H Z;have o:=H;simp only[Up,VJ,PW,aeM]at o;refine P5 o.1 o.2.1 o.2.2.1 o.2.2.2 fun I V HK2 HK3=>?_;simp only[aK,Ua,PV];iterate 2 (try generalize vs.getD _ VM=xq)
    have HAL:Hid (∀B,(B=D+1\/B=D+2\/B=D+3)->oo V6 B):=Tn (fun B hB=>by
     rcases hB with rfl|rfl|rfl
     .exact ej (sx:=0) HW1
     .exact nq HW2
     exact af3 HW3)
    go_wp2_with fail;rw[HKZ0.out];exact Jm (x':=⟨M,J,_,_⟩) I V HK2 (HE6.trans (HK3.below HE6.size (fun i hi=>by have:=ac.out;rcases hi with e|e|e<;>omega))) (HCV.offS HK3 HAL)
   have he:=hno o;subst he;unfold ga;go_wp2_with fail;rw[HKZ.out];exact qI HT1 ad HT3 HE5 ac o
  have hb:(ab==up)=false:=by simpa using X
  go_wp2_with fail;refine P2 (j6 221 Pi t) fun w2 h2=>have h2':=h2.symm;?_;subst h2';unfold ga;go_wp2_with fail;have hKK:K=221:=by rw[HK.out,if_neg Pm,if_pos X]
  rw[hKK];exact qI HQ1 HQ2 HQ3 HE1 ac Pi
 go_wp2_with fail;refine P2 (j6 kc hk0 t) fun w2 h2=>have h2':=h2.symm;?_;subst h2';unfold ga;go_wp2_with fail;have hKK:K=kc:=by rw[HK.out,if_pos hk0]
 rw[hKK];exact qI HQ1 HQ2 HQ3 HE1 ac hk0
end
def Nr(a b)(w:UN):Sem.run UB (binOp .eql 68 (p4 a) (p4 b)) w= .ok (U1 (a==b)) w:=by
 have l:UB.underlying 68=Ts (.struct (UB.fieldsOf 68)):=Pg;have x:UB.stoodInHeld 68=false:=Pg;unfold p4;rw[run_eql_struct,show(10000:Nat)=9999+1 from rfl,run_equalIn_agg w 9999 68 _ _ l x];exact U3
def OW(d)(l:List Dn)(a n cap w)(U:l.length=n)(hn:n<=1000000000)(V:n<=cap)(h:Kz w a l):
  VB UB 169 #[Tm a n cap,p4 d] w (bM (Ti Tl (kR (fun x=>d==x) l)) w):=by
 refine P4 U h fun T H=>have n1:=fun(y:Dn)w=>Nr d y w;?_;unfold p4 at n1⊢;refine P1 w.heap.size fun D C=>have W:=Tn C;P1 (dX w [Tq #[Ti Tl d.ses,Ti Tl d.ser,ag d.body.1,ag d.body.2] 68]) fun f No=>have z:=No;?_;simp only[dX]at z;refine P4 (bZ No) (ei No C) fun s L=>?_;go_enter func169,ntmps169;go_upto_region 1 with fail;try rw[z]
 try rw[C]
 go_wp2;go_loopw [8] (fun j wr=>∃k:Nat,k<=n/\j=Ti Tl k/\(l.take k).all (fun x=> !(d==x))=true/\aq f wr) (fun j _=>n-(VS j).toNat)
 case atStart=>exact⟨0,VF _,rfl,rfl,P0⟩
 obtain⟨k,o,rfl,A,g⟩:=hrel;refine P4 g A fun ys t=>?_;by_cases R:k<n
 .obtain⟨x,m⟩:=ay T R;obtain⟨b,off,rfl,M,Q,N,P⟩:=(H.ext (aa s ys)) k x m;have S:=Tn m;have c:=ai L ys;refine PR c fun x0 J K O=>have B:=fun w=>n1 x w;?_;obtain⟨r,u⟩:∃r,(d==x)=r:=⟨_,rfl⟩;rw[u]at B;have Z:=Tn u;go_upto_region 4 with fail;refine aZ Pg Pg (fun G=>aq wr G) (ap _) ?_;repeat
   (first|refine az rfl rfl rfl rfl ?_|refine aF rfl rfl rfl rfl ?_|refine aw rfl ?_|refine aj rfl rfl rfl rfl rfl ?_|((first|refine av (v:=?_) rfl rfl (fun hb G q=>?_) ?_|refine ar (v:=?_) rfl rfl rfl (fun X hb G q=>?_) ?_|refine ax (v:=?_) rfl (fun G q=>?_) ?_);rotate_left;(focus(have x0:=ae x0 q;have J:=ae J q;have K:=ae K q;have O:=ae O q;have M:=ae M q;have Q:=ae Q q;have N:=ae N q;have P:=ae P q;unfold ak;go_simp;first|exact aD q))))
   simp only[Ua,P7]
  refine aA fun G E=>have F:=Tn (aa ys E);?_;cases r
  .have I:=Tn (show(l.take (k+1)).all (fun x=> !(d==x))=true by rw[fv S.out,t.out,Z.out];rfl);go_wp2;go_roundw
   case rel=>exact⟨k+1,Ph,Pt,I,F⟩
   case measure=>simp[VS];omega
  have Y:=Tn (kW (p:=fun x=>d==x) S Z t);go_wp2;go_ret;exact⟨by rw[Y.out];rfl,aa s F⟩
 obtain rfl:k=n:=by omega
 rw[VD (l:=l) (i:=k) (by rw[T.out];exact UY _)]at t;have Z:=Tn (lr t);go_wp2;go_ret;exact⟨Ps,aa s ys⟩
def AN(d)(l:List Dn):l.any (fun x=>d==x)=l.contains d:=by rw[List.contains_eq_any_beq]
def MX(d)(l:List Dn)(a n cap w)(p:l.length=n)(hn:n<=1000000000)(o:n<=cap)(h:Kz w a l):
  VB UB 97 #[Tm a n cap,p4 d] w (bM (U1 (l.contains d)) w):=by
 refine P4 (fun W(g:aq w W)=>OW d l a n cap W p hn o (h.ext g)) (gI (fun x=>d==x) l) fun q s=>?_;unfold p4 at q⊢;rw[<-AN];refine P1 w.heap.size fun D C=>have r:=Tn C;P1 (dX w [Tq #[Ti Tl d.ses,Ti Tl d.ser,ag d.body.1,ag d.body.2] 68]) fun f No=>have j:=No;?_;simp only[dX]at j;refine P4 (bZ No) (ei No C) fun c b=>PR b fun c0 c1 c2 c3=>?_;go_enter func97,ntmps97;go_upto_region 1 with fail;try rw[j]
 try rw[C]
 go_wp2_with fail;refine P2 (q f c) fun t m=>have F:=Tn (aa c m);?_;rcases s.out with⟨h1,_,A⟩|⟨i,x,h1,_,_,_,A⟩
 .have Z:=Tn A;rw[h1];exact U4
 have Z:=Tn A;rw[h1];have hi:decide ((0:Int)<=(i:Int))=true:=Pm;exact U4
def E6(a n c)(w:UN)(hn:n<=c):VB UB 102 #[Tm a n c] w (bM (Tm a n n) w):=by
 go_enter func102,ntmps102;exact Tf
section
def aaL{o:VW}{l}(h:Kz w (Ts o) l):∀j u,(bP l)[j]?=Ts u->w.cell? (o.add j)=Ts u:=fun j u X=>by
 have d:(bP l).length=l.length*4:=dN (m:=4) (f:=nK) (fun _=>rfl) l;have Q:=(UU.1 X).1;rw[d]at Q;have hi:j/4<l.length:=Ph;obtain⟨x,p⟩:=ay rfl hi;obtain⟨b,off,q,L,h1,c,A⟩:=h (j/4) x p;cases q;have cf:=fC (m:=4) (f:=nK) (fun _=>rfl) (j%4) p (Wf _ Pi);rw[show j/4*4+j%4=j from Ph]at cf;have g:(nK x)[j%4]?=Ts u:=by rw[<-cf];exact X
 rw[show((⟨b,off,U8⟩:VW).add j)=⟨b,off+j,U8⟩from Px];have K:j%4=0\/j%4=1\/j%4=2\/j%4=3:=Ph;rcases K with K|K|K|K<;>rw[K]at g<;>cases g
 .rw[show off+j=off+j/4*4 from Ph];exact L
 .rw[show off+j=off+j/4*4+1 from Ph];exact h1
 .rw[show off+j=off+j/4*4+2 from Ph];exact c
 rw[show off+j=off+j/4*4+3 from Ph];exact A
def L7(l:List Dn)(d:Dn)(a)(n g:Nat)(w)(hl:l.length=n)(hn:n<=1000000000)(h:Kz w a l)(E:w.cell? ⟨g,0,U8⟩=Ts (Ti Tl d.ses))(g1:w.cell? ⟨g,1,U8⟩=Ts (Ti Tl d.ser))(g2:w.cell? ⟨g,2,U8⟩=Ts (ag d.body.1))(g3:w.cell? ⟨g,3,U8⟩=Ts (ag d.body.2)):
  ∃r q w',(ag8 #[40,40] 40 #[Tm a n n,Tm (Ts ⟨g,0,U8⟩) 1 1]).run UB w= .ok (Tm r (n+1) q) w'/\n+1<=q/\q<=VL/\qg w' r (l++[d])/\aq w w':=by
 obtain⟨i0,hi,z,s,y⟩:=WN OV;have o:∀(j:Nat)(u:UV),(nK d)[j]?=Ts u->w.cell? ((⟨g,0,U8⟩:VW).add j)=Ts u:=fun j u X=>by
  rw[show((⟨g,0,U8⟩:VW).add j)=⟨g,j,U8⟩from Px];match j,X with
  |0,X=>cases X;exact E
  |1,X=>cases X;exact g1
  |2,X=>cases X;exact g2
  |3,X=>cases X;exact g3
 have fin:∀(old:Nat),old<n+1->(w.drew.alloc (Tq ((bP l).toArray++(nK d).toArray++WP (UT #[Ti Tl 0,Ti Tl 0,Ti Tt 0,Ti Tt 0]).cells (Yt w (n+1) old 68-(n+1))) 68)).ownsRow w.heap.size 68 4 (Tm (Ts ⟨w.heap.size,0,U8⟩) (n+1) (Yt w (n+1) old 68)) (n+1) (bP (l++[d])):=fun old H=>by
  have p:(bP (l++[d])).length=(n+1)*4:=by rw[show bP (l++[d])=(l++[d]).flatMap nK from rfl,dN (m:=4) (f:=nK) (fun _=>rfl),Uo,hl];rfl
  have t:(bP l).length=n*4:=by rw[show bP l=l.flatMap nK from rfl,dN (m:=4) (f:=nK) (fun _=>rfl),hl]
  have D:=grownCap_ge w (n+1) old 68;have C:Yt w (n+1) old 68<=VL:=Yh w (n+1) old 68 Pr;refine⟨p,.inr ⟨w.heap.size,_,_,rfl,UY _,heap_alloc_new w.drew _,D,C,?_,?_⟩⟩
  .simp only[Array.size_append,WG,size_zeroCells,t];exact U9
  simp only[Array.toList_append,Ws];rw[<-Ws,<-p,jP];exact List.take_left
 have done:∀(r:UV×UN),(ag8 #[40,40] 40 #[Tm a n n,Tm (Ts ⟨g,0,U8⟩) 1 1]).run UB w= .ok r.1 r.2->r.2.ownsRow w.heap.size 68 4 r.1 (n+1) (bP (l++[d]))->aq w r.2->∃r q w',(ag8 #[40,40] 40 #[Tm a n n,Tm (Ts ⟨g,0,U8⟩) 1 1]).run UB w= .ok (Tm r (n+1) q) w'/\n+1<=q/\q<=VL/\qg w' r (l++[d])/\aq w w':=by
  rintro⟨v,w'⟩h1 c A;obtain⟨r,q,rfl,N,K,hd⟩:=uK Zaq c;exact⟨r,q,w',h1,N,K,⟨hd,.own Zaq c⟩,A⟩
 cases a with
 |none=>
  have L:n=0:=by
   rcases Ye n with L|L
   .exact L
   obtain⟨x,G⟩:=ay hl L;obtain⟨b,off,F,_⟩:=h 0 x G;cases F
  subst L;have hr:=run_append_nil (P:=UB) w 40 40 68 i0 _ underlying40 hi z ⟨g,0,U8⟩ 1 1 (nK d) (by rw[s];rfl) o Pi Pi (by rw[y];decide);rw[fD]at hr;have B:l=[]:=VA hl;have cf:=fin 0 Ph;rw[B]at cf;refine done ⟨_,_⟩ hr ?_ (af (ap _) _);rw[B];rw[show(bP []).toArray++(nK d).toArray=(nK d).toArray from by simp[bP]]at cf;exact cf
 |some b=>
  have hr:=run_append_grow (P:=UB) w 40 40 68 i0 _ underlying40 hi z b n n (bP l) (by rw[s,show bP l=l.flatMap nK from rfl,dN (m:=4) (f:=nK) (fun _=>rfl),hl]) (aaL h) ⟨g,0,U8⟩ 1 1 (nK d) (by rw[s];rfl) o Ph Ph (by rw[y];have:=nextslicecap_le (need:=n+1) (old:=n) Ph;omega);rw[fD]at hr;exact done ⟨_,_⟩ hr (fin n Ph) (af (ap _) _)
def ai9(D:Nat)(s:dp)(d:Dn)(W:UN)(e:Xo)(b:UN):Prop:=Fr (fun i=>i=D) W b/\(jT s d≠0->e=ga (jT s d))/\(jT s d=0->e=UO (UW #[])/\∃x',b.heap[D]?=Ts (Tq (oI (jw s d) x') 44 (0,0))/\dQ b (jw s d) x')
section
attribute [local irreducible] ak aN
attribute [local go_sem↓] fD
def agH(D:Nat)(d:Dn)(da:Option VW)(n:Nat)(dc:Nat)(r:Bool):List (UV->UN->Prop):=
 [ev (UK (Ts ⟨D,0,U8⟩)),
  ev (UK (Ts ⟨D,0,U8⟩)),
  ev (UK (Ts ⟨D,4,U8⟩)),
  ev (Tm da n dc),
  ev (UT #[Ti Tl d.ses,Ti Tl d.ser,ag d.body.1,ag d.body.2]),
  fun v w=>∃g,v= .func (.func 170) #[] #[UK (Ts ⟨g,0,U8⟩)]/\w.heap[g]?=Ts (Tq #[Ti Tl d.ses,Ti Tl d.ser,ag d.body.1,ag d.body.2] 68 (0,0)),
  ev (U1 r),
  ev (U1 r)]
def sM{p:Prop}(h:p:=by
  intro s vs w' hlo hhi hl hK hd;obtain rfl:s=0:=Ph;clear hlo hhi;have HK0:Hid (aq W1 w'):=hK;clear hK;simp only[aK,Ua,PV];try rw[dq hd 0 Pj rfl]
  try rw[dq hd 1 Pj rfl]
  try rw[dq hd 2 Pj rfl]
  try rw[dq hd 6 Pj rfl]
  have HL:=Tn hl;clear hd hl;try(have z:=ae (Uc _ D 4 _ _ _ HPD1) HK0)
  try(have hr:=ai HPE1 HK0;refine PR hr fun z0 z1 z2 z3=>?_)
  unfold ak;go_simp
  exact⟨rfl,P0⟩):p:=h
def us(D:Nat)(V:UN)(d:Dn)(c:Option VW)(b:Nat)(j:Nat)(m:Option VW)(f:Nat)(l:Nat)(k:Int)(st:lP):List (UV->UN->Prop):=
 [ev (UK (Ts ⟨D,0,U8⟩)),
  ev (UK (Ts ⟨D,0,U8⟩)),
  ev (UK (Ts ⟨D,5,U8⟩)),
  ev (UT #[Tm c b j,Tm m f l]),
  ev (UT #[Ti Tl d.ses,Ti Tl d.ser,ag d.body.1,ag d.body.2]),
  fun v w=>∃a4 c4,v=Tm a4 32 c4/\aJ w (Tm a4 32 c4) (dH d),
  fun v w=>∃a5 n5 c5 b5 m5 d5,v=UW #[UT #[Tm a5 n5 c5,Tm b5 m5 d5],Ti Tl k]/\(k=0->gn w (Tm a5 n5 c5) (Tm b5 m5 d5) st),
  fun v w=>∃a5 n5 c5 b5 m5 d5,v=UW #[UT #[Tm a5 n5 c5,Tm b5 m5 d5],Ti Tl k]/\(k=0->gn w (Tm a5 n5 c5) (Tm b5 m5 d5) st),
  fun v w=>∃a5 n5 c5 b5 m5 d5,v=UT #[Tm a5 n5 c5,Tm b5 m5 d5]/\(k=0->gn w (Tm a5 n5 c5) (Tm b5 m5 d5) st),
  ev (Ti Tl k),
  fun v w=>∃g,v=UK (Ts ⟨g,0,U8⟩)/\V.heap.size<=g/\w.heap[g]?=Ts (Tq #[zz,zz] 42 (0,0)),
  tv,
  ev (Ti Tl k)]
def Mn(D:Nat)(V:UN)(d:Dn)(c:Option VW)(b:Nat)(j:Nat)(m:Option VW)(f:Nat)(l:Nat)(k:Int)(st:lP):List (UV->UN->Prop):=
 us D V d c b j m f l k st|>.set 5 tv|>.set 6 tv|>.set 7 (fun v _=>∃a5 n5 c5 b5 m5 d5,v=UW #[UT #[Tm a5 n5 c5,Tm b5 m5 d5],Ti Tl k])|>.set 8 tv|>.set 10 (fun v w=>∃g a5 n5 c5 b5 m5 d5,v=UK (Ts ⟨g,0,U8⟩)/\V.heap.size<=g/\w.heap[g]?=Ts (Tq #[Tm a5 n5 c5,Tm b5 m5 d5] 42 (0,0))/\(k=0->gn w (Tm a5 n5 c5) (Tm b5 m5 d5) st))
def qG{p:Prop}(h:p:=by
  intro s vs w' hlo hhi hl hK hd;rcases(show s=0\/s=1 from Ph)with rfl|rfl<;>try omega
  all_goals first
  |(
    have HK0:Hid (aq W2 w'):=hK;clear hK;simp only[aK,Ua,PV];(try rw[dq hd 0 Pj rfl]);(try rw[dq hd 1 Pj rfl]);(try rw[dq hd 2 Pj rfl]);(try(have h_7:=hd 7 Pj;simp only[PW,us]at h_7;refine UX h_7 fun a5 h_7=>UX h_7 fun n5 h_7=>UX h_7 fun c5 h_7=>UX h_7 fun b5 h_7=>UX h_7 fun m5 h_7=>UX h_7 fun d5 h_7=>?_;have hv_7:=h_7.1;have H_7_0:=Tn h_7.2;clear h_7;rw[hv_7];clear hv_7));have HL:=Tn hl;clear hd hl;(try(have z5:=ae (Uc _ D 5 _ _ _ HPD2) HK0;have z6:=ae (Uc _ D 6 _ _ _ HPD2) HK0));(try(have hr:=ai HPE2 HK0;refine PR hr fun z0 z1 z2 z3=>?_));unfold ak;go_simp
    exact⟨rfl,P0⟩)
  |(
    have HK0:Hid (aq W2 w'):=hK;clear hK;simp only[aK,Ua,PV];(try rw[dq hd 0 Pj rfl]);(try rw[dq hd 1 Pj rfl]);(try rw[dq hd 2 Pj rfl]);(try rw[dq hd 3 Pj rfl]);(try rw[dq hd 4 Pj rfl]);(try(have h_7:=hd 7 Pj;simp only[Ua,PV,Mn,us]at h_7;refine UX h_7 fun a5 h_7=>UX h_7 fun n5 h_7=>UX h_7 fun c5 h_7=>UX h_7 fun b5 h_7=>UX h_7 fun m5 h_7=>UX h_7 fun d5 h_7=>?_;have hv_7:=h_7;clear h_7;rw[hv_7];clear hv_7));(try rw[dq hd 9 Pj rfl]);(try(have h_10:=hd 10 Pj;simp only[Ua,PV,Mn,us]at h_10;refine UX h_10 fun g h_10=>UX h_10 fun a5 h_10=>UX h_10 fun n5 h_10=>UX h_10 fun c5 h_10=>UX h_10 fun b5 h_10=>UX h_10 fun m5 h_10=>UX h_10 fun d5 h_10=>?_;have hv_10:=h_10.1;refine P3 h_10.2.1 h_10.2.2.1 h_10.2.2.2 fun H_10_0 H_10_1 H_10_2=>?_;clear h_10;rw[hv_10];clear hv_10));have HL:=Tn hl;clear hd hl;unfold ak;go_simp
    exact⟨rfl,P0⟩)):p:=h
def AT{B:Nat}{f g j l o m:UV}(hr:w.heap[B]?=Ts (Tq #[x0,f,g,j,l,o,m] t (0,0)))(c d:UV):
  ((w.setCell ⟨B,5,U8⟩ c).setCell ⟨B,6,U8⟩ d).heap[B]?=Ts (Tq #[x0,f,g,j,l,c,d] t (0,0))/\Fr (fun i=>i=B) w ((w.setCell ⟨B,5,U8⟩ c).setCell ⟨B,6,U8⟩ d):=by
 have L:(w.setCell ⟨B,5,U8⟩ c).heap[B]?=Ts (Tq #[x0,f,g,j,l,c,m] t (0,0)):=(VE _ B 5 _ _ _ hr).trans Pm;exact⟨(VE _ B 6 _ _ _ L).trans Pm,(Uz (S:=fun b=>b=B) _ ⟨B,5,U8⟩ _ rfl).trans (Uz (S:=fun b=>b=B) _ ⟨B,6,U8⟩ _ rfl)⟩
def Ba{B:Nat}{f j l m g d:UV}(hr:w.heap[B]?=Ts (Tq #[x0,f,j,l,m,g,d] t (0,0)))(c:UV):
  (w.setCell ⟨B,4,U8⟩ c).heap[B]?=Ts (Tq #[x0,f,j,l,c,g,d] t (0,0))/\Fr (fun i=>i=B) w (w.setCell ⟨B,4,U8⟩ c):=⟨(VE _ B 4 _ _ _ hr).trans Pm,Uz (S:=fun b=>b=B) _ ⟨B,4,U8⟩ _ rfl⟩
def DN(D:Nat)(d:Dn)(da:Option VW)(n:Nat)(dc:Nat)(a6:Option VW)(c:Nat)(f:Nat)(g:Option VW)(j:Nat)(b:Nat)(l2:List Dn):List (UV->UN->Prop):=
 [ev (UK (Ts ⟨D,0,U8⟩)),
  ev (UK (Ts ⟨D,0,U8⟩)),
  ev (UT #[Tm a6 c f,Tm g j b]),
  ev (UK (Ts ⟨D,0,U8⟩)),
  ev (UK (Ts ⟨D,0,U8⟩)),
  ev (UK (Ts ⟨D,4,U8⟩)),
  ev (Tm da n dc),
  ev (Tm da n n),
  ev (UT #[Ti Tl d.ses,Ti Tl d.ser,ag d.body.1,ag d.body.2]),
  fun v w=>∃gg,v=Tm (Ts ⟨gg,0,U8⟩) 1 1/\w.heap[gg]?=Ts (Tq #[Ti Tl d.ses,Ti Tl d.ser,ag d.body.1,ag d.body.2] 68 (0,0)),
  fun v w=>∃r q,v=Tm r (n+1) q/\n+1<=q/\q<=VL/\qg w r l2,
  ev (UK (Ts ⟨D,0,U8⟩)),
  ev (UK (Ts ⟨D,5,U8⟩)),
  tv,
  ev (UK (Ts ⟨D,0,U8⟩)),
  ev (UK (Ts ⟨D,4,U8⟩)),
  tv]
def aaK(D:Nat)(d:Dn)(da:Option VW)(n:Nat)(dc:Nat)(a6:Option VW)(c:Nat)(f:Nat)(g:Option VW)(j:Nat)(b:Nat)(l2:List Dn):List (UV->UN->Prop):=
 DN D d da n dc a6 c f g j b l2|>.set 9 tv
def Nm(D:Nat)(V:UN)(b:Int)(sx:Nat)(bad:Bool)(up:Bool)(da:Option VW)(n:Nat)(dc:Nat)(a6:Option VW)(d:Nat)(j:Nat)(g:Option VW)(f:Nat)(c:Nat)(w:UN):Prop:=w.heap[D]?=Ts (Tq #[Ti Tl b,ag sx,U1 bad,U1 up,Tm da n dc,Tm a6 d j,Tm g f c] 44 (0,0))/\Fr (fun i=>i=D) V w
def ajH(D:Nat)(d:Dn)(da:Option VW)(n:Nat)(dc:Nat)(a6:Option VW)(c:Nat)(f:Nat)(g:Option VW)(j:Nat)(b:Nat)(l2:List Dn):List (UV->UN->Prop):=
 aaK D d da n dc a6 c f g j b l2|>.set 10 tv
def aeJ(D:Nat)(V:UN)(b:Int)(sx:Nat)(bad:Bool)(up:Bool)(n:Nat)(a6:Option VW)(d:Nat)(j:Nat)(g:Option VW)(f:Nat)(c:Nat)(l2:List Dn)(w:UN):Prop:=∃r q,w.heap[D]?=Ts (Tq #[Ti Tl b,ag sx,U1 bad,U1 up,Tm r (n+1) q,Tm a6 d j,Tm g f c] 44 (0,0))/\n+1<=q/\q<=VL/\qg w r l2/\Fr (fun i=>i=D) V w
def akE{d dc a6 f j l b l2}(P:Fr (fun i=>i=D) w1 w2)(m:oo w1 D):∀i_,((DN D d da n dc a6 f g j l b l2).getD i_ fun _ _=>True) (vs.getD i_ VM) w1->((aaK D d da n dc a6 f g j l b l2).getD i_ fun _ _=>True) (vs.getD i_ VM) w2:=by
 intro i_ h;iterate 17 (rcases i_ with _|i_;focus first|exact(h:_=_)|trivial|(obtain⟨r,q,L,h1,c,A⟩:=h;exact⟨r,q,L,h1,c,qg.off A P m⟩))
 trivial
def jx{p:Prop}(h:p:=by
  intro s vs w' hlo hhi hl hK hd;rcases(show s=0\/s=1\/s=2 from Ph)with rfl|rfl|rfl<;>try omega
  all_goals first
  |(
    have HK0:Hid (aq W6 w'):=hK;clear hK;simp only[aK,Ua,PV];(try rw[dq hd 0 Pj rfl]);(try rw[dq hd 2 Pj rfl]);(try rw[dq hd 3 Pj rfl]);(try rw[dq hd 4 Pj rfl]);(try rw[dq hd 5 Pj rfl]);(try rw[dq hd 6 Pj rfl]);(try rw[dq hd 7 Pj rfl]);(try(have h_10:=hd 10 Pj;simp only[PW,DN]at h_10;refine UX h_10 fun r h_10=>UX h_10 fun q h_10=>?_;have hv_10:=h_10.1;refine P3 h_10.2.1 h_10.2.2.1 h_10.2.2.2 fun H_10_0 H_10_1 H_10_2=>?_;clear h_10;rw[hv_10];clear hv_10));(try rw[dq hd 11 Pj rfl]);have HL:=Tn hl;clear hd hl;(try(have hr:=ai HPG6 HK0;refine PM hr fun z0 z1=>?_));(try(have z4:=ae (Uc _ D 4 _ _ _ HPD6) HK0));(try(have hr:=ai HPE6 HK0;refine PR hr fun z0 z1 z2 z3=>?_));unfold ak;go_simp
    exact⟨rfl,P0⟩)
  |(
    have hk:=hK;simp only[PW]at hk;unfold Nm at hk;refine P4 hk.1 hk.2 fun HK0 HK1=>?_;clear hk hK;simp only[aK,Ua,PV];(try rw[dq hd 0 Pj rfl]);(try rw[dq hd 1 Pj rfl]);(try rw[dq hd 2 Pj rfl]);(try rw[dq hd 3 Pj rfl]);(try rw[dq hd 4 Pj rfl]);(try rw[dq hd 5 Pj rfl]);(try rw[dq hd 6 Pj rfl]);(try rw[dq hd 7 Pj rfl]);(try rw[dq hd 8 Pj rfl]);(try(have h_10:=hd 10 Pj;simp only[Ua,PV,aaK,DN]at h_10;refine UX h_10 fun r h_10=>UX h_10 fun q h_10=>?_;have hv_10:=h_10.1;refine P3 h_10.2.1 h_10.2.2.1 h_10.2.2.2 fun H_10_0 H_10_1 H_10_2=>?_;clear h_10;rw[hv_10];clear hv_10));(try rw[dq hd 11 Pj rfl]);(try rw[dq hd 12 Pj rfl]);(try rw[dq hd 14 Pj rfl]);have HL:=Tn hl;clear hd hl;unfold ak;go_simp
    exact⟨rfl,P0⟩)):p:=h
def Ei{s}{b:au}(h:fM s b=0):gH (fT s b)=0:=by
 unfold fM at h;split at h
 .cases h
 split at h
 .cases h
 split at h
 .cases h
 exact h
def AQ(s x d D w)(h:dQ w s x)(hr:w.heap[D]?=Ts (Tq (oI s x) 44 (0,0)))(hd:ai8 d)(hdl:s.done.length<=1000000)(hsl:s.store.safe.length+s.store.opn.length<=100000000):
  VB UB 35 #[UK (Ts ⟨D,0,U8⟩),p4 d] w (ai9 D s d w):=by
 obtain⟨⟨si,sx⟩,bad,up,done,sto⟩:=s;obtain⟨da,dc,u,v⟩:=x;obtain⟨ua,uc,va,vc,X,hv⟩:=h.sto.form;dsimp only at X hv hdl hsl;subst X hv;refine P1 done.length fun n hn=>P1 sto.safe.length fun un hun=>P1 sto.opn.length fun vn hvn=>P3 hn hun hvn fun HN HUN HVN=>have C:=h.done;have hdc:=h.dl;have hdm:=h.dm;have l:=h.sto;have HTY:=Tn h.typ;?_;dsimp only at C hdc hdm l;unfold oI at hr;dsimp only at hr;rw[hn]at hdl hdc hr;rw[hun,hvn]at hr l hsl;refine PJ hd C l hdl hdc hdm hsl hr (fun W(y:aq w W)=>MX d done da n dc W hn Ph hdc (C.ext y)) fun HDN HDS HSTO HDL HDC HDM HSL HROW HIN=>P1 (done.contains d) fun cb hcb=>?_;rw[hcb]at HIN;have HCB:=Tn hcb;unfold p4 at HIN⊢;clear hcb hn hun hvn h C hdc hdm l hr hd hdl hsl;refine P1 w.heap.size fun E y=>have HSE:=Tn y;P1 (dX w [Tq #[Ti Tl d.ses,Ti Tl d.ser,ag d.body.1,ag d.body.2] 68]) fun f No=>have hW0:=No;?_;simp only[dX]at hW0;refine P4 (bZ No) (ei No y) fun HEW0 HP0=>?_;clear No;have K:=Tn (ai HROW HEW0);refine PX K fun c0 c1 c2 c3 c4 c5 c6=>PR HP0 fun f0 f1 f2 f3=>?_;go_enter func35,ntmps35;go_upto_region 1 with fail;try rw[hW0]
 try rw[y]
 clear hW0 y;refine aZ Pg Pg (fun w'=>aq f w') (ap _) ?_;repeat
  (first|refine az rfl rfl rfl rfl ?_|refine aF rfl rfl rfl rfl ?_|refine aw rfl ?_|refine aj rfl rfl rfl rfl rfl ?_|((first|refine av (v:=?_) rfl rfl (fun hb w' l=>?_) ?_|refine ar (v:=?_) rfl rfl rfl (fun hb1 hb w' l=>?_) ?_|refine ax (v:=?_) rfl (fun w' l=>?_) ?_);rotate_left;(focus(have z4:=ae c4 l;have g0:=ae f0 l;have g1:=ae f1 l;have g2:=ae f2 l;have g3:=ae f3 l;unfold ak;go_simp;first|exact aD l|(go_at_call 97;refine(HIN _ (aa HEW0 l)).mono ?_;rintro e w''⟨rfl,c⟩;exact aH (aa l c))))))
  simp only[Ua,P7]
 refine aA fun W1 hE1=>P3 (aa HEW0 hE1) (ai K hE1) (ai HP0 hE1) fun al HPD1 HPE1=>?_;clear c0 c1 c2 c3 c4 c5 c6 f0 f1 f2 f3;cases cb with
 |true=>
  have N:=HCB.out;have HM:Hid (jT ⟨⟨si,sx⟩,bad,up,done,sto⟩ d=0/\jw ⟨⟨si,sx⟩,bad,up,done,sto⟩ d=⟨⟨si,sx⟩,bad,up,done,sto⟩):=Tn (by unfold jT jw;dsimp only;rw[if_pos N,if_pos N];exact⟨rfl,rfl⟩);clear N hE1;go_wp2;refine VC (v:=UW #[]) Zat rfl ?_;refine⟨Uh al,fun h=>absurd HM.out.1 h,fun _=>⟨rfl,?_⟩⟩;rw[HM.out.2];refine⟨⟨da,dc,_,_⟩,?_,⟨HDS.ext al,?_,HDM,HSTO.ext al,HTY.ext al⟩⟩
  .unfold oI;dsimp only;rw[HN.out];exact HPD1.out
  dsimp only;rw[HN.out];exact HDC.out
 |false=>
  have HCF:=HCB;have HAS:=Tn (fun g W(y:aq W1 W)(S:W.heap[g]?=Ts (Tq #[Ti Tl d.ses,Ti Tl d.ser,ag d.body.1,ag d.body.2] 68 (0,0)))=>sr 170 #[UK (Ts ⟨g,0,U8⟩)] (cI d) done da n dc W (vV S done) HN (by have:=HDL.out;omega) HDC (HDS.ext (aa al y)));refine P1 (done.any (cI d)) fun r hr=>?_;rw[hr]at HAS;have Z:=Tn hr;clear hE1 hr;go_upto_region 2 with fail;refine(WV (n:=0)).1 ?_;refine bu (r:=U8) 8 [] [cT,cT,cT,cT,cT,cT,cT,cT] [Ts 14,Ts 15,Ts 16,Ts 17,Ts 18,Ts 19,Ts 20,Ts 13] Pg Pg Pg [aq W1] (OY yk) [agH D d da n dc r] (OY (by repeat first|exact Gl|refine EC ?_|refine Gx ?_|refine Ek (fun v w w'⟨g,t9,L⟩y=>⟨g,t9,ai L y⟩) ?_)) ?k0 ?steps ?fin
  case k0=>exact ap W1
  case steps=>
   refine⟨sM,sM,sM,sM,sM,?_,?_,sM,trivial⟩
   .intro s vs w' hlo hhi hl hK hd;obtain rfl:s=0:=Ph;clear hlo hhi;have HK0:Hid (aq W1 w'):=hK;clear hK;simp only[aK,Ua,PV];(try rw[dq hd 4 Pg rfl]);have HL:=Tn hl;clear hd hl;unfold ak;go_simp;go_at_call 98;refine(qU d _).mono ?_;rintro e w5⟨rfl,h5,t⟩;exact⟨_,rfl,⟨_,rfl,h5⟩,t⟩
   intro s vs w' hlo hhi hl hK hd;obtain rfl:s=0:=Ph;clear hlo hhi;have HK0:Hid (aq W1 w'):=hK;clear hK;have m:=hd 5 Pg;simp only[PW,agH]at m;refine UX m fun g m=>have B:=m.1;have R:=Tn m.2;?_;clear m;simp only[aK,Ua,PV];(try rw[dq hd 3 Pg rfl]);(try rw[B]);clear B;have HL:=Tn hl;clear hd hl;unfold ak;go_simp;go_at_call 42;exact P2 (HAS g _ HK0 R) fun w5 t=>⟨_,rfl,rfl,t⟩
  case fin=>
   intro vs w' hl hK hd;have HK0:Hid (aq W1 w'):=hK;clear hK;have h_7:=hd 7 Pi;simp only[VJ,PW,agH]at h_7;simp only[aK,Ua,PV];rw[h_7];clear h_7;iterate 7 (try generalize vs.getD _ VM=xq)
   clear hd hl;refine P3 (aa al HK0) (ai HPD1 HK0) (ai HPE1 HK0) fun HK7 HPD2 HPE2=>?_;obtain⟨W2,Y⟩:∃W2,W2=w':=⟨_,rfl⟩;subst Y;have F:=Tn HK7.out;clear HK7 HK0 HAS;cases r with
   |true=>
    have HM:Hid (jT ⟨⟨si,sx⟩,bad,up,done,sto⟩ d=250):=Tn (by unfold jT;dsimp only;rw[if_neg Zbb,if_pos Z.out]);go_wp2_with fail;refine P2 (j6 250 Pi W2) fun w2 c=>have V:=c.symm;?_;subst V;clear c;unfold ga;go_wp2_with fail;refine⟨rfl,Uh F,fun _=>?_,fun h=>absurd (HM.symm.trans h) Pi⟩;rw[HM.out];rfl
   |false=>
    have HM:Hid (jT ⟨⟨si,sx⟩,bad,up,done,sto⟩ d=fM sto (dH d)/\jw ⟨⟨si,sx⟩,bad,up,done,sto⟩ d=⟨⟨si,sx⟩,bad,up,done++[d],pT (fT sto (dH d))⟩):=Tn (by unfold jT jw;dsimp only;rw[if_neg Zbb,if_neg (by rw[Z.out];simp),if_neg Zbb];exact⟨rfl,rfl⟩);have HSTO2:=Tn (HSTO.ext F);refine P1 (fM sto (dH d)) fun k hk=>P1 (fT sto (dH d)) fun st hst=>P3 hst hk (fun W(y:aq W2 W)bv(hb:aJ W bv (dH d))=>Cp sto (dH d) (Tm ua un uc) (Tm va vn vc) bv W (HSTO2.ext y) hb (by rw[HUN.out,HVN.out];exact HSL.out) (by rw[gl];decide)) fun HST0 HKK HAP=>?_;rw[hk,hst]at HAP HM;clear hk hst;go_wp2_with fail;have X0:EX (us D W2 d ua un uc va vn vc k st):=by repeat first|exact Gl|refine EC ?_|refine Gx ?_|refine Ek (fun v w w'⟨a4,c4,t9,L⟩y=>⟨a4,c4,t9,L.ext y⟩) ?_|refine Ek (fun v w w'⟨a5,n5,c5,b5,m5,d5,t9,L⟩y=>⟨a5,n5,c5,b5,m5,d5,t9,(fun e=>(L e).ext y)⟩) ?_|refine Ek (fun v w w'⟨g,t9,L,h1⟩y=>⟨g,t9,L,ai h1 y⟩) ?_
    refine(WV (n:=0)).1 ?_;refine bu (r:=U8) 13 [11] [cT,cT,cT,cT,cT,cT,cT,cT,cT,(false,0,1),cT,(true,0,0),(false,1,1)] [Ts 23,Ts 24,Ts 25,Ts 26,Ts 27,Ts 28,Ts 29,Ts 22,Ts 30,Ts 31,Ts 4,U8,Ts 5] Pg Pg Pg [aq W2,aq W2] (ss yk yk) [us D W2 d ua un uc va vn vc k st,Mn D W2 d ua un uc va vn vc k st] (ss X0 (((X0.stv.stv.set (fun _ _ _ h _=>h)).stv.set (fun v w w'⟨g,a5,n5,c5,b5,m5,d5,t9,L,h1,c⟩y=>⟨g,a5,n5,c5,b5,m5,d5,t9,L,ai h1 y,(fun e=>(c e).ext y)⟩)))) ?k0 ?steps ?fin
    case k0=>exact ap W2
    case steps=>
     refine⟨qG,qG,qG,qG,qG,?_,?_,?_,?_,qG,?_,?_,qG,trivial⟩
     .intro s vs w' hlo hhi hl hK hd;obtain rfl:s=0:=Ph;clear hlo hhi;have HK0:Hid (aq W2 w'):=hK;clear hK;simp only[aK,Ua,PV];(try rw[dq hd 4 Pg rfl]);have HL:=Tn hl;clear hd hl;unfold ak;go_simp;go_at_call 100;refine(Ey d _ HDN).mono ?_;rintro e w5⟨v5,rfl,hown5,t⟩;obtain⟨a5,c5,an,h5⟩:=Yz rfl hown5;rw[gl]at an;subst an;exact⟨_,rfl,⟨a5,c5,rfl,Yz rfl hown5⟩,t⟩
     .intro s vs w' hlo hhi hl hK hd;obtain rfl:s=0:=Ph;clear hlo hhi;have HK0:Hid (aq W2 w'):=hK;clear hK;have m:=hd 5 Pg;simp only[PW,us]at m;refine UX m fun a4 m=>UX m fun c4 m=>have B:=m.1;have R:=Tn m.2;?_;clear m;simp only[aK,Ua,PV];(try rw[dq hd 3 Pg rfl]);(try rw[B]);clear B;have HL:=Tn hl;clear hd hl;unfold ak;go_simp;go_at_call 99;refine(HAP _ HK0 _ R).mono ?_;rintro e w5⟨u5,v5,rfl,t,hno,ah⟩;by_cases hk:k=0
      .have hs5:=ah hk;obtain⟨a5,c5,b5,d5,hu5,an⟩:=hs5.form;subst hu5 an;exact⟨_,rfl,⟨a5,_,c5,b5,_,d5,rfl,fun _=>hs5⟩,t⟩
      obtain⟨hu5,an⟩:=hno hk;subst hu5 an;exact⟨_,rfl,⟨U8,0,0,U8,0,0,rfl,fun e=>absurd e hk⟩,t⟩
     .intro s vs w' hlo hhi hl hK hd;obtain rfl:s=0:=Ph;clear hlo hhi;have HK0:Hid (aq W2 w'):=hK;clear hK;have b:=hd 6 Pg;simp only[PW,us]at b;refine UX b fun a5 b=>UX b fun n5 b=>UX b fun c5 b=>UX b fun b5 b=>UX b fun m5 b=>UX b fun d5 b=>have Q:=b.1;have H_6_0:=Tn b.2;?_;clear b;simp only[aK,Ua,PV];(try rw[Q]);clear Q;have HL:=Tn hl;clear hd hl;unfold ak;go_simp;exact⟨⟨a5,n5,c5,b5,m5,d5,rfl,H_6_0⟩,P0⟩
     .intro s vs w' hlo hhi hl hK hd;obtain rfl:s=0:=Ph;clear hlo hhi;have HK0:Hid (aq W2 w'):=hK;clear hK;have h_7:=hd 7 Pg;simp only[PW,us]at h_7;refine UX h_7 fun a5 h_7=>UX h_7 fun n5 h_7=>UX h_7 fun c5 h_7=>UX h_7 fun b5 h_7=>UX h_7 fun m5 h_7=>UX h_7 fun d5 h_7=>have hv_7:=h_7.1;have H_7_0:=Tn h_7.2;?_;clear h_7;simp only[aK,Ua,PV];(try rw[hv_7]);clear hv_7;have HL:=Tn hl;clear hd hl;unfold ak;go_simp;exact⟨⟨a5,n5,c5,b5,m5,d5,rfl,H_7_0⟩,P0⟩
     .intro s vs w' hlo hhi hl hK hd;obtain rfl:s=0:=Ph;clear hlo hhi;have HK0:Hid (aq W2 w'):=hK;exact Tj
     intro vs w' hl hK hd;have HK0:Hid (aq W2 w'):=hK;clear hK;have t9:=hd 0 Pi Pg;have U:=hd 1 Pi Pg;have I:=hd 2 Pi Pg;have G:=hd 3 Pi Pg;have z:=hd 4 Pi Pg;have m:=hd 5 Pi Pg;have b:=hd 6 Pi Pg;have h_7:=hd 7 Pi Pg;have o:=hd 8 Pi Pg;have h_10:=hd 10 Pi Pg;simp only[PW,us]at t9 U I G z m b h_7 o h_10;refine UX m fun a4 m=>UX m fun c4 m=>have B:=m.1;have R:=Tn m.2;?_;clear m;refine UX b fun a5 b=>UX b fun n5 b=>UX b fun c5 b=>UX b fun b5 b=>UX b fun m5 b=>UX b fun d5 b=>have Q:=b.1;have H_6_0:=Tn b.2;?_;clear b;refine UX h_7 fun a5 h_7=>UX h_7 fun n5 h_7=>UX h_7 fun c5 h_7=>UX h_7 fun b5 h_7=>UX h_7 fun m5 h_7=>UX h_7 fun d5 h_7=>have hv_7:=h_7.1;have H_7_0:=Tn h_7.2;?_;clear h_7;refine UX o fun a5 o=>UX o fun n5 o=>UX o fun c5 o=>UX o fun b5 o=>UX o fun m5 o=>UX o fun d5 o=>have hv_8:=o.1;have H_8_0:=Tn o.2;?_;clear o;refine UX h_10 fun g h_10=>have hv_10:=h_10.1;P4 h_10.2.1 h_10.2.2 fun H_10_0 H_10_1=>?_;clear h_10;simp only[aK,Ua,PV];(try rw[t9]);(try rw[U]);(try rw[I]);(try rw[G]);(try rw[z]);(try rw[B]);(try rw[Q]);(try rw[hv_7]);(try rw[hv_8]);(try rw[hv_10]);refine P9 t9 U I G z hv_10 fun Kh_0 Kh_1 Kh_2 Kh_3 Kh_4 T=>?_;clear t9 U I G z B Q hv_7 hv_8 hv_10;have HL:=Tn hl;clear hd hl;refine P4 (dt H_10_1 (Tm a5 n5 c5) (Tm b5 m5 d5)) (oV H_10_1) fun j HOF=>PM H_10_1 fun e0 am=>PO H_10_1 fun fz0 fz1=>bg fun Post hP=>have HP:=Tn hP;?_;clear hP;unfold aN;go_simp;refine HP.out _ _ ⟨HK0.trans (j.2.below HK0.size (fun i hi=>Rv)),trivial,(by intro i_ h;(iterate 13 rcases i_ with _|i_;focus first|exact(h:_=_)|trivial|(obtain⟨a5,n5,c5,b5,m5,d5,h,_⟩:=h;exact⟨a5,n5,c5,b5,m5,d5,h⟩)|exact⟨g,a5,n5,c5,b5,m5,d5,T,H_10_0,j.1,fun e=>(H_8_0 e).off j.2 HOF⟩);trivial)⟩
    case fin=>
     intro vs w' hl hK hd;have HK0:Hid (aq W2 w'):=hK;clear hK;have h_10:=hd 10 Pi;simp only[Up,VJ,Ua,PV,Mn,us]at h_10;refine UX h_10 fun g h_10=>UX h_10 fun a5 h_10=>UX h_10 fun n5 h_10=>UX h_10 fun c5 h_10=>UX h_10 fun b5 h_10=>UX h_10 fun m5 h_10=>UX h_10 fun d5 h_10=>have hv_10:=h_10.1;P3 h_10.2.1 h_10.2.2.1 h_10.2.2.2 fun H_10_0 H_10_1 H_10_2=>?_;clear h_10;have p:=hd 12 Pi;simp only[Up,VJ,Ua,PV,Mn,us]at p;simp only[aK,Ua,PV];rw[hv_10,p];clear hv_10 p;iterate 10 (try generalize vs.getD _ VM=xq)
     clear hd hl;refine P9 (aa F HK0) (ai HPD2 HK0) (ai HPE2 HK0) H_10_0.out H_10_1.out H_10_2.out fun HE4 HPD4 HPE4 HGG HPG4 HST4=>?_;obtain⟨W4,hW4⟩:∃W4,W4=w':=⟨_,rfl⟩;subst hW4;have HDG:Hid (D<g/\E<g):=Tn (by have h1:=(UE.1 HPD2).1;have c:=(UE.1 HPE2).1;have:=HGG.out;omega);clear HK0 H_10_0 H_10_1 H_10_2 HAP;by_cases hk:k=0
     .subst hk;refine P4 (HST4 rfl) (Ei HKK) fun HSC4 HWE=>?_;rw[HST0.out]at HWE;go_wp2_with fail;refine P2 (p8 W4) fun w2 c=>have V:=c.symm;?_;subst V;clear c;refine PM HPG4 fun t0 t1=>?_;go_wp2_with fail;refine(yP st (Tm a5 n5 c5) (Tm b5 m5 d5) W4 HSC4).mono ?_;rintro e W5⟨u6,v6,rfl,t,_,ah⟩;have hS5:=ah HWE;obtain⟨a6,c6,b6,d6,hu6,hv6⟩:=hS5.form;subst hu6 hv6;refine P1 ((pT st).safe.length) fun n6 hn6=>P1 ((pT st).opn.length) fun m6 hm6=>?_;rw[hn6,hm6]at hS5⊢;rw[HWE.out];refine P5 (aa HE4 t) (ai HPD4 t) (ai HPE4 t) (ai HPG4 t) fun HE5 HPD5 HPE5 O=>have ab:=Tn (dt O (Tm a6 n6 c6) (Tm b6 m6 d6));have HSC6:=Tn (hS5.off ab.2 (oV O));?_;clear t0 t1 t ah hS5 hn6 hm6;refine PM O fun t0 t1=>PO O fun fz0 fz1=>PI W5 g (Tm a6 n6 c6) (Tm b6 m6 d6) fun W6 hW6=>?_;rw[hW6]at ab HSC6;refine P5 (aM HPD5 ab.2 (fun e=>by have:=HDG.out;have e':D=g:=e;omega)) (aM HPE5 ab.2 (fun e=>by have:=HDG.out;have e':E=g:=e;omega)) ab.out.1 (HE5.trans (ab.2.below HE5.size (fun i hi=>by have:=HDG.out;have e':i=g:=hi;have:=(UE.1 HROW).1;have:=HSE.out;omega))) fun HPD6 HPE6 HPG6 HE6=>have HDS6:=Tn (HDS.ext HE6);?_;go_wp2_with fail;(try rw[hW6]);clear hW6 t0 t1 fz0 fz1 ab;refine P2 (p8 W6) fun w2 c=>have V:=c.symm;?_;subst V;clear c;go_wp2_with fail;refine P1 (done++[d]) fun l2 hl2=>have HL2:=Tn hl2;?_;clear hl2;have X0:EX (DN D d da n dc a6 n6 c6 b6 m6 d6 l2):=by repeat first|exact Gl|refine EC ?_|refine Gx ?_|refine Ek (fun v w w'⟨gg,t9,L⟩y=>⟨gg,t9,ai L y⟩) ?_|refine Ek (fun v w w'⟨r,q,t9,L,h1,c⟩y=>⟨r,q,t9,L,h1,c.ext y⟩) ?_
      have X1:EX (aaK D d da n dc a6 n6 c6 b6 m6 d6 l2):=X0.stv;refine(WV (n:=0)).1 ?_;refine bu (r:=U8) 17 [13,16] [cT,(false,0,1),cT,cT,cT,cT,cT,cT,cT,cT,cT,cT,cT,(true,0,0),(false,1,1),(false,1,1),(true,1,0)] [Ts 41,Ts 42,Ts 43,Ts 44,Ts 45,Ts 46,Ts 47,Ts 48,Ts 49,Ts 50,Ts 51,Ts 52,Ts 53,U8,Ts 54,Ts 55,U8] Pg Pg Pg [aq W6,Nm D W6 si sx bad up da n dc a6 n6 c6 b6 m6 d6,aeJ D W6 si sx bad up n a6 n6 c6 b6 m6 d6 l2] (En yk (by rintro w w'⟨L,h1⟩y;exact⟨ai L y,h1.trans (Uh y)⟩) (by rintro w w'⟨r,q,L,h1,c,A,h4⟩y;exact⟨r,q,ai L y,h1,c,A.ext y,h4.trans (Uh y)⟩)) [DN D d da n dc a6 n6 c6 b6 m6 d6 l2,aaK D d da n dc a6 n6 c6 b6 m6 d6 l2,ajH D d da n dc a6 n6 c6 b6 m6 d6 l2] (En X0 X1 (X1.stv)) ?k0 ?steps ?fin
      case k0=>exact ap W6
      case steps=>
       refine⟨jx,jx,jx,jx,jx,jx,jx,?_,jx,?_,?_,jx,jx,?_,jx,jx,?_,trivial⟩
       .intro s vs w' hlo hhi hl hK hd;obtain rfl:s=0:=Ph;clear hlo hhi;have HK0:Hid (aq W6 w'):=hK;clear hK;simp only[aK,Ua,PV];(try rw[dq hd 6 Pg rfl]);have HL:=Tn hl;clear hd hl;unfold ak;go_simp;go_at_call 102;exact P2 (E6 da n dc _ HDC) fun w5 t=>⟨_,rfl,rfl,t⟩
       .intro s vs w' hlo hhi hl hK hd;obtain rfl:s=0:=Ph;clear hlo hhi;have HK0:Hid (aq W6 w'):=hK;clear hK;simp only[aK,Ua,PV];(try rw[dq hd 8 Pg rfl]);exact Ug
       .intro s vs w' hlo hhi hl hK hd;obtain rfl:s=0:=Ph;clear hlo hhi;have HK0:Hid (aq W6 w'):=hK;clear hK;have J:=hd 9 Pg;simp only[PW,DN]at J;refine UX J fun gg J=>have P:=J.1;have M:=Tn J.2;?_;clear J;simp only[aK,Ua,PV];(try rw[dq hd 7 Pg rfl]);(try rw[P]);clear P;have HL:=Tn hl;clear hd hl;have hap:=L7 done d da n gg w' HN (by have:=HDL.out;omega) (HDS6.ext HK0) (Uc _ gg 0 _ _ _ M) (Uc _ gg 1 _ _ _ M) (Uc _ gg 2 _ _ _ M) (Uc _ gg 3 _ _ _ M);rw[HL2.out]at hap;obtain⟨r,q,w8,hrun,hq1,hq2,hdn,hE8⟩:=hap;refine P4 (Xy hq1 (Xy hq2 hdn)) hE8 fun HQ8 HE8=>?_;clear hq1 hq2 hdn hE8;unfold ak;go_simp;exact⟨⟨r,q,rfl,HQ8.1,HQ8.2.1,HQ8.2.2⟩,HE8⟩
       .intro vs w' hl hK hd;have HK0:Hid (aq W6 w'):=hK;clear hK;have t9:=hd 0 Pi Pg;have I:=hd 2 Pi Pg;have G:=hd 3 Pi Pg;have z:=hd 4 Pi Pg;have m:=hd 5 Pi Pg;have b:=hd 6 Pi Pg;have h_7:=hd 7 Pi Pg;have o:=hd 8 Pi Pg;have J:=hd 9 Pi Pg;have h_10:=hd 10 Pi Pg;have H:=hd 11 Pi Pg;have p:=hd 12 Pi Pg;simp only[PW,DN]at t9 I G z m b h_7 o J h_10 H p;refine UX J fun gg J=>have P:=J.1;have M:=Tn J.2;?_;clear J;refine UX h_10 fun r h_10=>UX h_10 fun q h_10=>have hv_10:=h_10.1;P3 h_10.2.1 h_10.2.2.1 h_10.2.2.2 fun H_10_0 H_10_1 H_10_2=>?_;clear h_10;simp only[aK,Ua,PV];(try rw[t9]);(try rw[I]);(try rw[G]);(try rw[z]);(try rw[m]);(try rw[b]);(try rw[h_7]);(try rw[o]);(try rw[P]);(try rw[hv_10]);(try rw[H]);(try rw[p]);refine PH t9 I G z m b h_7 o hv_10 H fun Kh_0 Kh_2 Kh_3 Kh_4 Kh_5 Kh_6 Kh_7 Kh_8 T Kh_11=>have Kh_12:=Tn p;?_;clear t9 I G z m b h_7 o P hv_10 H p;have HL:=Tn hl;clear hd hl;have hr:=ai HPD6 HK0;have j:=Tn (AT hr (Tm a6 n6 c6) (Tm b6 m6 d6));refine PZ hr fun e5 e6=>Pa hr fun fz5 fz6=>bg fun Post hP=>have HP:=Tn hP;?_;clear hP;unfold aN;go_simp;refine HP.out _ _ ⟨⟨j.1,(Uh HK0).trans j.2⟩,trivial,akE j.2 (ej (ai HPD6 HK0))⟩
       intro vs w' hl hK hd;have hk:=hK;simp only[PW,Nm]at hk;refine P4 hk.1 hk.2 fun HK0 HK1=>?_;clear hk hK;have t9:=hd 0 Pi Pg;have U:=hd 1 Pi Pg;have I:=hd 2 Pi Pg;have G:=hd 3 Pi Pg;have z:=hd 4 Pi Pg;have m:=hd 5 Pi Pg;have b:=hd 6 Pi Pg;have h_7:=hd 7 Pi Pg;have o:=hd 8 Pi Pg;have h_10:=hd 10 Pi Pg;have H:=hd 11 Pi Pg;have p:=hd 12 Pi Pg;have ac:=hd 14 Pi Pg;have ad:=hd 15 Pi Pg;simp only[Ua,PV,aaK,DN]at t9 U I G z m b h_7 o h_10 H p ac ad;refine UX h_10 fun r h_10=>UX h_10 fun q h_10=>have hv_10:=h_10.1;P3 h_10.2.1 h_10.2.2.1 h_10.2.2.2 fun H_10_0 H_10_1 H_10_2=>?_;clear h_10;simp only[aK,Ua,PV];(try rw[t9]);(try rw[U]);(try rw[I]);(try rw[G]);(try rw[z]);(try rw[m]);(try rw[b]);(try rw[h_7]);(try rw[o]);(try rw[hv_10]);(try rw[H]);(try rw[p]);(try rw[ac]);(try rw[ad]);refine PH t9 U I G z m b h_7 o hv_10 fun Kh_0 Kh_1 Kh_2 Kh_3 Kh_4 Kh_5 Kh_6 Kh_7 Kh_8 T=>P4 H p fun Kh_11 Kh_12=>?_;clear t9 U I G z m b h_7 o hv_10 H p ac ad;have HL:=Tn hl;clear hd hl;have hr:=HK0.out;have j:=Tn (Ba hr (Tm r (n+1) q));have e4:=Uc w' D 4 _ _ _ hr;have fz4:=VQ w' D 4 _ _ hr;refine bg fun Post hP=>have HP:=Tn hP;?_;clear hP;unfold aN;go_simp;refine HP.out _ _ ⟨⟨r,q,j.1,H_10_0,H_10_1,qg.off H_10_2 j.2 (ej HK0),HK1.trans j.2⟩,trivial,TR.go Bt⟩
      case fin=>
       intro vs w' hl hK hd;have hk:=hK;simp only[Up,VJ,PW,aeJ]at hk;refine UX hk fun r hk=>UX hk fun q hk=>PC hk.1 hk.2.1 hk.2.2.1 hk.2.2.2.1 hk.2.2.2.2 fun HK0 HK1 HK2 HK3 HK4=>?_;clear hk hK;simp only[aK,Ua,PV];iterate 15 (try generalize vs.getD _ VM=xq)
       clear hd hl;go_wp2;refine VC (v:=UW #[]) Zat rfl ?_;refine⟨(Uh HE6).trans HK4,fun h=>absurd (HM.1) h,fun _=>⟨rfl,?_⟩⟩;rw[HM.out.2];have hlen:(done++[d]).length=n+1:=by rw[Uo,HN.out];rfl
       refine⟨⟨r,q,_,_⟩,?_,⟨?_,?_,HK2,HSC6.off HK4 (ej HPD6).1,?_⟩⟩
       .unfold oI;dsimp only;rw[hlen];exact HK0.out
       .dsimp only;rw[HL2.out];exact HK3.out.1
       .dsimp only;rw[hlen];exact HK1.out
       dsimp only;rw[HL2.out];exact HK3.out.2
     go_wp2_with fail;refine P2 (j6 k hk W4) fun w2 c=>have V:=c.symm;?_;subst V;clear c;unfold ga;go_wp2_with fail;refine⟨rfl,Uh HE4,fun _=>?_,fun h=>absurd (HM.1.symm.trans h) hk⟩;rw[HM.out.1];rfl
end
end
section
def vi(s:dp)(b me:Int)(d:Dn):Int:=if b<0\/1099511627776<b then 1 else if s.bad=false/\me≠0 then me else if s.bad=false/\jT s d≠0 then jT s d else bY s.share b
def JH(s b me d):fk s true (vi s b me d)=bA s b me d:=by
 unfold fk vi bA;cases s.up<;>simp
def Ll{s b d}(h:dZ b=false):vi s b me d=1:=by
 unfold vi;rw[if_pos];unfold dZ at h;simp at h;by_cases h0:b<0
 .exact .inl h0
 exact .inr (by have:=h Ph;omega)
def FQ{s b d}(h:dZ b=true):vi s b me d=if s.bad=false/\me≠0 then me else if s.bad=false/\jT s d≠0 then jT s d else bY s.share b:=by
 unfold vi;rw[if_neg];unfold dZ at h;simp at h;omega
section
attribute [local irreducible] ak aN
def abK(D:Nat)(g:Nat)(d:Dn)(bv:UV):List (UV->UN->Prop):=
 [ev (UK (Ts ⟨D,0,U8⟩)),
  ev (Ti Tl d.ses),
  ev (UK (Ts ⟨g,0,U8⟩)),
  ev (Ti Tl d.ser),
  ev (bv),
  ev (UT #[ag d.body.1,ag d.body.2]),
  ev (UT #[Ti Tl d.ses,Ti Tl d.ser,ag d.body.1,ag d.body.2]),
  tv]
def aiU(D:Nat)(g:Nat)(d:Dn)(bv:UV):List (UV->UN->Prop):=
 abK D g d bv
def ae1(D:Nat)(V:UN)(s:dp)(d:Dn)(w:UN):Prop:=∃x',w.heap[D]?=Ts (Tq (oI (jw s d) x') 44 (0,0))/\dQ w (jw s d) x'/\Fr (fun i=>i=D) V w/\jT s d=0
def sU{p:Prop}(h:p:=by
  intro s vs w' hlo hhi hl hK hd;rcases(show s=0\/s=1 from Ph)with rfl|rfl<;>try omega
  have HK0:Hid (aq W5 w'):=hK;clear hK;simp only[aK,Ua,PV];try rw[dq hd 1 Pj rfl]
  try rw[dq hd 2 Pj rfl]
  try rw[dq hd 3 Pj rfl]
  try rw[dq hd 5 Pj rfl]
  have HL:=Tn hl;clear hd hl;try(have z:=ae (Uc _ sb 0 _ _ _ HRS5) HK0)
  try(have z:=ae (Uc _ g 0 _ _ _ HPG5) HK0)
  try(have z:=ae (Uc _ bb 0 _ _ _ HRB5) HK0)
  unfold ak;go_simp
  exact⟨rfl,P0⟩):p:=h
def Gm(D:Nat)(V:UN)(sh:bq)(ses:Int)(bv:UV)(k:Int)(c:bq):List (UV->UN->Prop):=
 [ev (UK (Ts ⟨D,0,U8⟩)),
  ev (UK (Ts ⟨D,0,U8⟩)),
  ev (UK (Ts ⟨D,0,U8⟩)),
  ev (UT #[Ti Tl sh.id,ag sh.x]),
  ev (Ti Tl ses),
  ev (bv),
  ev (UW #[UT #[Ti Tl c.id,ag c.x],Ti Tl k]),
  ev (UW #[UT #[Ti Tl c.id,ag c.x],Ti Tl k]),
  ev (UT #[Ti Tl c.id,ag c.x]),
  ev (Ti Tl k),
  fun v w=>∃g,v=UK (Ts ⟨g,0,U8⟩)/\V.heap.size<=g/\w.heap[g]?=Ts (Tq #[Ti Tl 0,Ti Tt 0] 39 (0,0)),
  tv,
  ev (Ti Tl k)]
def ab3(D:Nat)(V:UN)(sh:bq)(ses:Int)(bv:UV)(k:Int)(c:bq):List (UV->UN->Prop):=
 Gm D V sh ses bv k c|>.set 10 (fun v w=>∃g,v=UK (Ts ⟨g,0,U8⟩)/\V.heap.size<=g/\w.heap[g]?=Ts (Tq #[Ti Tl c.id,ag c.x] 39 (0,0)))
def lM{p:Prop}(h:p:=by
  intro s vs w' hlo hhi hl hK hd;rcases(show s=0\/s=1 from Ph)with rfl|rfl<;>try omega
  all_goals first
  |(
    have HK0:Hid (aq V w'):=hK;clear hK;simp only[aK,Ua,PV];(try rw[dq hd 0 Pj rfl]);(try rw[dq hd 1 Pj rfl]);(try rw[dq hd 2 Pj rfl]);(try rw[dq hd 6 Pj rfl]);(try rw[dq hd 7 Pj rfl]);have HL:=Tn hl;clear hd hl;(try(have hr:=ai HPX HK0;refine PM hr fun z0 z1=>?_));(try(have z:=ae (Uc _ sb 0 _ _ _ GRS) HK0));(try(have z:=ae (Uc _ bb 0 _ _ _ GRB) HK0));unfold ak;go_simp
    exact⟨rfl,P0⟩)
  |(
    have HK0:Hid (aq V w'):=hK;clear hK;simp only[aK,Ua,PV];(try rw[dq hd 0 Pj rfl]);(try rw[dq hd 1 Pj rfl]);(try rw[dq hd 2 Pj rfl]);(try rw[dq hd 3 Pj rfl]);(try rw[dq hd 4 Pj rfl]);(try rw[dq hd 5 Pj rfl]);(try rw[dq hd 6 Pj rfl]);(try rw[dq hd 7 Pj rfl]);(try rw[dq hd 8 Pj rfl]);(try rw[dq hd 9 Pj rfl]);(try(have h_10:=hd 10 Pj;simp only[Ua,PV,ab3,Gm]at h_10;refine UX h_10 fun g h_10=>?_;have hv_10:=h_10.1;refine P4 h_10.2.1 h_10.2.2 fun H_10_0 H_10_1=>?_;clear h_10;rw[hv_10];clear hv_10));have HL:=Tn hl;clear hd hl;unfold ak;go_simp
    exact⟨rfl,P0⟩)):p:=h
def Om{p:Prop}(h:p:=by
  have HEV:Hid (aq w V):=Tn (HE0.trans (GF.below HE0.size (fun i hi=>by have:=HDD.out;have e':i=D:=hi;omega)));have HQC:=Tn (fun W(hE:aq V W)=>HQC.out W (aa HEV hE));have X0:EX (Gm D V sh ses bv kq c):=by repeat first|exact Gl|refine EC ?_|refine Gx ?_|refine Ek (fun v w w'⟨g,h_0,h0,h1⟩hE=>⟨g,h_0,h0,ai h1 hE⟩) ?_
  refine(WV (n:=0)).1 ?_;refine bu (r:=U8) 13 [11] [cT,cT,cT,cT,cT,cT,cT,cT,cT,(false,0,1),cT,(true,0,0),(false,1,1)] [Ts 39,Ts 40,Ts 41,Ts 42,Ts 43,Ts 44,Ts 45,Ts 38,Ts 46,Ts 47,Ts 9,U8,Ts 10] Pg Pg Pg [aq V,aq V] (ss yk yk) [Gm D V sh ses bv kq c,ab3 D V sh ses bv kq c] (ss X0 ((X0.set (fun v w w'⟨g,h_0,h0,h1⟩hE=>⟨g,h_0,h0,ai h1 hE⟩)))) ?k0 ?steps ?fin
  case k0=>exact ap V
  case steps=>
   refine⟨lM,lM,lM,lM,lM,lM,?_,lM,lM,lM,?_,?_,lM,trivial⟩
   .intro s vs w' hlo hhi hl hK hd;obtain rfl:s=0:=Ph;clear hlo hhi;have HK0:Hid (aq V w'):=hK;clear hK;simp only[aK,Ua,PV];(try rw[dq hd 3 Pg rfl]);(try rw[dq hd 4 Pg rfl]);(try rw[dq hd 5 Pg rfl]);have HL:=Tn hl;clear hd hl;unfold ak;go_simp;go_at_call 11;refine(HQC _ HK0).mono ?_;rintro e w5⟨rfl,hE5⟩;exact⟨_,rfl,rfl,hE5⟩
   .intro s vs w' hlo hhi hl hK hd;obtain rfl:s=0:=Ph;clear hlo hhi;have HK0:Hid (aq V w'):=hK;clear hK;simp only[aK,Ua,PV];have HL:=Tn hl;clear hd hl;unfold ak;go_simp;exact⟨⟨_,rfl,HK0.size,UZ _ _⟩,af P0 _⟩
   intro vs w' hl hK hd;have HK0:Hid (aq V w'):=hK;clear hK;have h_0:=hd 0 Pi Pg;have h_1:=hd 1 Pi Pg;have h_2:=hd 2 Pi Pg;have h_3:=hd 3 Pi Pg;have h_4:=hd 4 Pi Pg;have h_5:=hd 5 Pi Pg;have h_6:=hd 6 Pi Pg;have h_7:=hd 7 Pi Pg;have h_8:=hd 8 Pi Pg;have h_10:=hd 10 Pi Pg;simp only[PW,Gm]at h_0 h_1 h_2 h_3 h_4 h_5 h_6 h_7 h_8 h_10;refine UX h_10 fun g h_10=>have hv_10:=h_10.1;P4 h_10.2.1 h_10.2.2 fun H_10_0 H_10_1=>?_;clear h_10;simp only[aK,Ua,PV];(try rw[h_0]);(try rw[h_1]);(try rw[h_2]);(try rw[h_3]);(try rw[h_4]);(try rw[h_5]);(try rw[h_6]);(try rw[h_7]);(try rw[h_8]);(try rw[hv_10]);refine PH h_0 h_1 h_2 h_3 h_4 h_5 h_6 h_7 h_8 hv_10 fun Kh_0 Kh_1 Kh_2 Kh_3 Kh_4 Kh_5 Kh_6 Kh_7 Kh_8 Khv_10=>?_;clear h_0 h_1 h_2 h_3 h_4 h_5 h_6 h_7 h_8 hv_10;have HL:=Tn hl;clear hd hl;have HST:=Tn (dt H_10_1 (Ti Tl c.id) (ag c.x));refine PM H_10_1 fun e0 e1=>PO H_10_1 fun fz0 fz1=>bg fun Post hP=>have HP:=Tn hP;?_;clear hP;unfold aN;go_simp;refine HP.out _ _ ⟨HK0.trans (HST.2.below HK0.size (fun i hi=>Rv)),trivial,(by intro i_ h;(iterate 13 rcases i_ with _|i_;focus first|exact(h:_=_)|exact⟨g,Khv_10,H_10_0,HST.1⟩|trivial);trivial)⟩
  case fin=>
   intro vs w' hl hK hd;have HK0:Hid (aq V w'):=hK;clear hK;have h_10:=hd 10 Pi;simp only[Up,VJ,Ua,PV,ab3,Gm]at h_10;refine UX h_10 fun g h_10=>have hv_10:=h_10.1;P4 h_10.2.1 h_10.2.2 fun H_10_0 H_10_1=>?_;clear h_10;have h_12:=hd 12 Pi;simp only[Up,VJ,Ua,PV,ab3,Gm]at h_12;simp only[aK,Ua,PV];rw[hv_10,h_12];clear hv_10 h_12;iterate 10 (try generalize vs.getD _ VM=xq)
   clear hd hl;refine P9 HK0.out H_10_0.out H_10_1.out (ai GE HK0) (ai GP HK0) (GS.ext HK0) fun HEG HGG HPG HPE HPD9 HSC9=>have HF9:Hid (Fr (fun i=>i=D) W0 w'):=Tn (GF.trans (Uh HK0));?_;obtain⟨W9,hW9⟩:∃W9,W9=w':=⟨_,rfl⟩;subst hW9;clear HK0 H_10_0 H_10_1;have HGE:Hid (g≠E/\E≠D):=Tn (by have h1:=(UE.1 GE).1;have h2:=(UE.1 HROW).1;have:=HGG.out;have:=HSE.out;omega);by_cases hk:kq=0
   .subst hk;go_wp2_with fail;refine(p8 W9).mono ?_;rintro e w2⟨rfl,h2⟩;have h2':=h2.symm;subst h2';clear h2;refine PM HPG fun g0 g1=>PM HPE fun e0 e1=>PO HPE fun fz0 fz1=>have HST:=Tn (dt HPE (Ti Tl c.id) (ag c.x));PI W9 E (Ti Tl c.id) (ag c.x) fun V9 hV9=>?_;rw[hV9]at HST;go_wp2_with fail;(try rw[hV9]);refine PM HST.1 fun q0 q1=>VC (v:=UT #[Ti Tl c.id,ag c.x]) (by simp[Vo,results31,go_sem,q0,q1]) rfl ?_;rw[GK.out,GG.out];exact⟨HF9.onto HST.2 (fun i hi e=>Qz),fun h=>absurd rfl h,fun _=>⟨rfl,_,aM HPD9 HST.2 (by have:=HGE.out;omega),HSC9.off HST.2 (nq (y:=0) HPE)⟩⟩
   go_wp2_with fail;refine(j6 kq hk W9).mono ?_;rintro e w2⟨rfl,h2⟩;have h2':=h2.symm;subst h2';clear h2;unfold ga;go_wp2_with fail;rw[GK.out]
   exact⟨rfl,HF9,fun _=>rfl,fun h=>absurd h hk⟩):p:=h
def Cu(s x ses me)(b:au)(ser:Int)(bv kv:UV)(t1 t2:UV)(sb bb kb tb:Nat)(w)(hK:aU w)(hb:aJ w bv b)(hbl:b.length<=1000000)(hrs:w.heap[sb]?=Ts (Tq #[Ti Tl ses] 3 (0,0)))(a4:w.heap[bb]?=Ts (Tq #[bv] 37 (0,0)))(hrk:w.heap[kb]?=Ts (Tq #[kv] 50 (0,0)))(hrt:w.heap[tb]?=Ts (Tq #[t1,t2] 27 (0,0)))(al:∀W,aq w W->VB UB 18 #[bv,kv,UT #[t1,t2]] W (bM (Ti Tl me) W))(ah:me=0->∃c,cz b= .ok c/\c.serial=ser)(hC:dQ w s x)(m:s.share.x<2^64)(hdl:s.done.length<=1000000)(hsl:s.store.safe.length+s.store.opn.length<=100000000):
  Ot 31 #[UK (Ts ⟨sb,0,U8⟩),UK (Ts ⟨bb,0,U8⟩),UK (Ts ⟨kb,0,U8⟩),UK (Ts ⟨tb,0,U8⟩)] w s x (vi s ses me ⟨ses,ser,bF b⟩) (bN s ⟨ses,ser,bF b⟩) (cE s.share ses b):=by
 refine⟨Vv func31 Pg rfl,fun W0 D z hDD hr0=>?_⟩;obtain⟨d,hd⟩:∃d:Dn,(⟨ses,ser,bF b⟩:Dn)=d:=⟨_,rfl⟩;have ab:Hid (d.ses=ses/\d.ser=ser/\d.body=bF b):=Tn (by rw[<-hd];exact⟨rfl,rfl,rfl⟩);rw[hd];have HDN:Hid (ai8 d):=Tn (by have h:=lk b;rw[<-hd];exact⟨WF h.1 Pi,WF h.2 Pi⟩);refine P1 s.bad fun bad a0=>P1 s.share fun sh a3=>?_;rw[a3]at m⊢;refine P1 (cE sh ses b) fun c J=>?_;rw[J];have HDD:=Tn hDD;have HLS:=Tn (UE.1 hrs).1;have HLB:=Tn (UE.1 a4).1;refine PH hdl hsl z (hC.ext z) hr0 al ah a0 a3 (fun W(hE:aq w W)=>fF b bv W (hb.ext hE) Ph) fun HDL HSL HE0 HSC0 HROW HMAY HSER q Y L=>P4 (fun W(hE:aq w W)=>tY b bv W (hK.ext hE) (hb.ext hE) hbl) (fun W(hE:aq w W)=>nQ sh ses bv b W m (hb.ext hE) Ph) fun HGB HQC=>P1 (bY sh ses) fun kq a5=>?_;rw[J,a5]at HQC;have HKQ:=Tn a5;unfold eU at HQC;refine P5 (ai hrs z) (ai a4 z) (ai hrk z) (ai hrt z) fun HRS HRB HRK HRT=>?_;clear hd a0 a3 J a5 al ah hdl hsl hK hb hbl hC z hr0 hDD hrs a4 hrk hrt;refine P1 W0.heap.size fun E hE=>have HSE:=Tn hE;P1 (dX W0 [Tq #[Ti Tl 0,Ti Tt 0] 39]) fun t G=>have T:=G;?_;simp only[dX]at T;refine P4 (bZ G) (ei G hE) fun l HP0=>?_;clear G;refine PG (aa HE0 l) (HSC0.ext l) (ai HROW l) (ai HRS l) (ai HRB l) (ai HRK l) (ai HRT l) fun HE1 an H K R HRK1 am=>have s0:=Uc t sb 0 _ _ _ K;have b0:=Uc t bb 0 _ _ _ R;have k0:=Uc t kb 0 _ _ _ HRK1;PM am fun t0 t1'=>?_;have c2:t.cell? ⟨D,2,U8⟩=Ts (U1 bad):=by rw[<-q.out];exact Uc t D 2 _ _ _ H
 go_enter func31,ntmps31;go_upto_region 1 with fail;try rw[T]
 try rw[hE]
 clear T hE;go_wp2_with fail;refine(J3 ses t).mono ?_;rintro e w2⟨rfl,h2⟩;have h2':=h2.symm;subst h2';clear h2;cases U:dZ ses with
 |false=>
  have o:=Tn (Ll (s:=s) (me:=me) (d:=d) U);clear U;go_wp2_with fail;refine(j6 1 Pi t).mono ?_;rintro e w2⟨rfl,h2⟩;have h2':=h2.symm;subst h2';clear h2;unfold ga;go_wp2;exact⟨rfl,Uh l,fun _=>by rw[o.out];rfl,fun h=>absurd (o.symm.trans h) Pi⟩
 |true=>
  have o:=Tn (FQ (s:=s) (me:=me) (d:=d) U);clear U;cases bad with
  |true=>
   rw[q.out]at o;have N:Hid (vi s ses me d=kq):=Tn (by rw[o.out,if_neg Pm,if_neg Pm,Y.out];exact HKQ.out);have a1:Hid (bN s d=s):=Tn (by unfold bN;rw[q.out];rfl);have Q:=Y;have HFV:Hid (Fr (fun i=>i=D) W0 t):=Tn (Uh l);go_wp2_with fail;clear s0 b0 k0 t0 t1' c2;obtain⟨V,hV⟩:∃V,V=t:=⟨_,rfl⟩;subst hV
   have HPX:Hid (V.heap[D]?=Ts (Tq #[Ti Tl sh.id,ag sh.x,U1 (s).bad,U1 (s).up,Tm (x).da (s).done.length (x).dc,(x).u,(x).v] 44 (0,0))):=Tn (by
    have h:=H.out;unfold oI at h;rw[Q.out]at h
    exact h)
   have GP:=H;have GS:=an;have GF:=HFV;have GE:=HP0;have GRS:=K;have GRB:=R;have GK:=N;have GG:=a1;exact Om
  |false=>
   rw[q.out]at o;go_wp2_with fail;refine(HMAY t HE1).mono ?_;rintro e I⟨rfl,y⟩;refine PG (aa HE1 y) (an.ext y) (ai H y) (ai HP0 y) (ai K y) (ai R y) (aa l y) fun F HSC2 HPD2 HPE2 HRS2 ad HA2=>?_;clear s0 b0 k0 t0 t1' c2 y;by_cases ac:me=0
   .subst ac;obtain⟨cc,S,hcs⟩:=HSER.out rfl;refine P4 S hcs fun HG HCS=>have b0:=Uc I bb 0 _ _ _ ad;?_;clear S hcs;go_wp2_with fail;refine(p8 I).mono ?_;rintro e w2⟨rfl,h2⟩;have h2':=h2.symm;subst h2';clear h2;go_wp2_with fail;refine(HGB I F).mono ?_;rintro e O⟨u,k,rfl,p,ao⟩;rw[HG.out]at ao;obtain⟨rfl,_,j,rfl,_⟩:=ao;refine PG (aa F p) (HSC2.ext p) (ai HPD2 p) (ai HPE2 p) (ai HRS2 p) (ai ad p) (aa HA2 p) fun Id HSC3 HPD3 HPE3 HRS3 HRB3 HA3=>?_;clear b0 p;refine P1 O.heap.size fun g S=>have HGS3:=Tn S;P1 (O.alloc (Tq #[Ti Tl 0,UH ⟨#[]⟩,UH ⟨#[]⟩,Ti Tt 0,zz,Ti Tl 0,Ti Tl 0,U1 false,Ti Tl 0,zz,zz,Ti Tt 0,Ti Tt 0] 97)) fun W4 X=>have HE4:=Tn (show aq O W4 by rw[<-X];exact af P0 _);have HR4:Hid (W4.heap[g]?=Ts (Tq #[Ti Tl 0,UH ⟨#[]⟩,UH ⟨#[]⟩,Ti Tt 0,zz,Ti Tl 0,Ti Tl 0,U1 false,Ti Tl 0,zz,zz,Ti Tt 0,Ti Tt 0] 97 (0,0))):=Tn (PP X S);?_;unfold fx;(iterate 8 go_simp;go_step);go_simp;(try rw[X]);(try rw[S]);clear X S;go_step;refine WS rfl _ _ _ rfl g #[Ti Tl cc.serial,UH (aL cc.issuer),UH (aL cc.subject),ag cc.key,Tm j.na cc.names.length j.nc,Ti Tl cc.from_,Ti Tl cc.until_,U1 cc.ca,Ti Tl cc.depth,Tm j.pa cc.permit.length j.pc,Tm j.ra cc.proms.length j.rc,ag cc.sig.e,ag cc.sig.s] rfl rfl 97 _ HR4 Pg Q8 Q6 ?_;refine P1 (W4.setRow g #[Ti Tl cc.serial,UH (aL cc.issuer),UH (aL cc.subject),ag cc.key,Tm j.na cc.names.length j.nc,Ti Tl cc.from_,Ti Tl cc.until_,U1 cc.ca,Ti Tl cc.depth,Tm j.pa cc.permit.length j.pc,Tm j.ra cc.proms.length j.rc,ag cc.sig.e,ag cc.sig.s]) fun W5 Z=>?_;rw[Z];have f:Hid (W5.heap[g]?=Ts (Tq #[Ti Tl cc.serial,UH (aL cc.issuer),UH (aL cc.subject),ag cc.key,Tm j.na cc.names.length j.nc,Ti Tl cc.from_,Ti Tl cc.until_,U1 cc.ca,Ti Tl cc.depth,Tm j.pa cc.permit.length j.pc,Tm j.ra cc.proms.length j.rc,ag cc.sig.e,ag cc.sig.s] 97 (0,0))):=Tn (by rw[<-Z];exact Z4 W4 g _ _ _ _ HR4);have HFW5:Hid (Fr (fun k=>k=g) W4 W5):=Tn (by rw[<-Z];exact bH _ _ _);clear Z;refine Pb f fun q0 q1 q2 q3 q4 q5 q6 q7 q8 q9 q10 q11 q12=>have C:Hid (aq O W5):=Tn (HE4.trans (HFW5.below HE4.size (fun k hk=>by have:=HGS3.out;omega)));P5 (aa Id C) (HSC3.ext C) (ai HPD3 C) (ai HPE3 C) fun HE5 HSC5 HPD5 HPE5=>have HRS5:Hid (W5.heap[sb]?=Ts (Tq #[Ti Tl d.ses] 3 (0,0))):=Tn (by rw[ab.out.1];exact ai HRS3 C);P4 (ai HRB3 C) (aa HA3 C) fun HRB5 HA5=>have HPG5:Hid (W5.heap[g]?=Ts (Tq #[Ti Tl d.ser,UH (aL cc.issuer),UH (aL cc.subject),ag cc.key,Tm j.na cc.names.length j.nc,Ti Tl cc.from_,Ti Tl cc.until_,U1 cc.ca,Ti Tl cc.depth,Tm j.pa cc.permit.length j.pc,Tm j.ra cc.proms.length j.rc,ag cc.sig.e,ag cc.sig.s] 97 (0,0))):=Tn (by rw[ab.out.2.1,<-HCS.out];exact f.out);have HSUM5:=L;?_
    have L:=Tn (fun W(hE:aq W5 W)=>by
     have h:=HSUM5.out W (aa HE5 hE);rw[<-ab.out.2.2]at h
     exact h)
    clear q0 q1 q2 q3 q4 q5 q6 q7 q8 q9 q10 q11 q12;go_wp2_with fail;have X0:EX (abK D g d bv):=by repeat first|exact Gl|refine EC ?_|refine Gx ?_
    refine(WV (n:=0)).1 ?_;refine oc (r:=U8) 8 [7] [cT,cT,cT,cT,cT,cT,cT,(true,0,0)] [Ts 30,Ts 31,Ts 32,Ts 33,Ts 34,Ts 35,Ts 36,Ts 37] Pg Pg Pg (B:=fun c w=>c=[{v:= .iface 184 (UT #[Ti Tl (jT s d)]),recovered:=false}]/\jT s d≠0/\Fr (fun i=>i=D) W5 w) ?hb [aq W5,ae1 D W5 s d] (ss yk (by rintro w w'⟨x',h0,h1,h2,A⟩hE;exact⟨x',ai h0 hE,h1.ext hE,h2.trans (Uh hE),A⟩)) [abK D g d bv,aiU D g d bv] (ss X0 (X0)) ?k0 ?steps ?fin
    case k0=>exact ap W5
    case steps=>
     refine⟨sU,sU,sU,sU,sU,?_,sU,?_,trivial⟩
     .intro s vs w' hlo hhi hl hK hd;obtain rfl:s=0:=Ph;clear hlo hhi;have HK0:Hid (aq W5 w'):=hK;clear hK;simp only[aK,Ua,PV];(try rw[dq hd 4 Pg rfl]);have HL:=Tn hl;clear hd hl;unfold ak;go_simp;go_at_call 10;refine(L _ HK0).mono ?_;exact Zcz
     intro vs w' hl hK hd;have HK0:Hid (aq W5 w'):=hK;clear hK;have h_0:=hd 0 Pi Pg;have h_1:=hd 1 Pi Pg;have h_2:=hd 2 Pi Pg;have h_3:=hd 3 Pi Pg;have h_4:=hd 4 Pi Pg;have h_5:=hd 5 Pi Pg;have h_6:=hd 6 Pi Pg;simp only[PW,abK]at h_0 h_1 h_2 h_3 h_4 h_5 h_6;simp only[aK,Ua,PV];(try rw[h_0]);(try rw[h_1]);(try rw[h_2]);(try rw[h_3]);(try rw[h_4]);(try rw[h_5]);(try rw[h_6]);refine PG h_0 h_1 h_2 h_3 h_4 h_5 h_6 fun Kh_0 Kh_1 Kh_2 Kh_3 Kh_4 Kh_5 Kh_6=>?_;clear h_0 h_1 h_2 h_3 h_4 h_5 h_6;have HL:=Tn hl;clear hd hl;have hrm:=AQ s x d D w' (HSC5.ext HK0) (ai HPD5 HK0) HDN HDL HSL;unfold p4 at hrm;have HRM:=Tn hrm;clear hrm;refine bg fun Post hP=>have HP:=Tn hP;?_;clear hP;unfold aN;go_simp;go_at_call 35;refine HRM.out.mono ?_;rintro e w5⟨P,hno,hyes⟩;by_cases hk:jT s d=0
     .obtain⟨rfl,x',hr,hC⟩:=hyes hk;exact WQ ⟨_,rfl,HP _ _ ⟨⟨x',hr,hC,(Uh HK0).trans P,hk⟩,trivial,TR.go Bt⟩⟩
     exact Or.inr ⟨_,hno hk,rfl,hk,(Uh HK0).trans P⟩
    case hb=>
     rintro cc2 a2 w2 hdf⟨rfl,hmk,P⟩;have hkk:vi s ses 0 d=jT s d:=by rw[o.out,if_neg Pm,if_pos (by simp[hmk])]
     rw[hkk];exact⟨hdf,(Uh HA5).trans P,fun _=>rfl,fun h=>absurd h hmk⟩
    case fin=>
     intro vs w' hl hK hd;have hk:=hK;simp only[Up,VJ,PW,ae1]at hk;refine UX hk fun x' hk=>P5 hk.1 hk.2.1 hk.2.2.1 hk.2.2.2 fun HK0 HK1 M HK3=>?_;clear hk hK;simp only[aK,Ua,PV];iterate 8 (try generalize vs.getD _ VM=xq)
     clear hd hl;have HFV:Hid (Fr (fun i=>i=D) W0 w'):=Tn ((Uh HA5).trans M);refine P3 HK0.out HK1.out HK3.out fun HPV HSV HM0=>?_;have hsbD:sb≠D:=by have:=HLS.out;have:=HDD.out;omega
     have hbbD:bb≠D:=by have:=HLB.out;have:=HDD.out;omega
     have hED:E≠D:=by have:=(UE.1 HROW).1;have:=HSE.out;omega
     have HRSV:Hid (w'.heap[sb]?=Ts (Tq #[Ti Tl ses] 3 (0,0))):=Tn (by rw[<-ab.out.1];exact aM HRS5 M (fun e=>hsbD e));refine P4 (aM HRB5 M (fun e=>hbbD e)) (aM HPE5 M (fun e=>hED e)) fun HRBV HPEV=>have Q:Hid ((jw s d).share=sh):=Tn (by unfold jw;split<;>exact Y.out);have N:Hid (vi s ses 0 d=kq):=Tn (by rw[o.out,if_neg Pm,if_neg (by simp[HM0.out]),Y.out];exact HKQ.out);have a1:Hid (bN s d=jw s d):=Tn (by unfold bN;rw[q.out];rfl);?_;obtain⟨V6,hV6⟩:∃V6,V6=w':=⟨_,rfl⟩;subst hV6;clear HK0 HK1 M HK3;go_wp2_with fail;obtain⟨V,hV⟩:∃V,V=V6:=⟨_,rfl⟩;subst hV
     have HPX:Hid (V.heap[D]?=Ts (Tq #[Ti Tl sh.id,ag sh.x,U1 ((jw s d)).bad,U1 ((jw s d)).up,Tm (x').da ((jw s d)).done.length (x').dc,(x').u,(x').v] 44 (0,0))):=Tn (by
      have h:=HPV.out;unfold oI at h;rw[Q.out]at h
      exact h)
     have GP:=HPV;have GS:=HSV;have GF:=HFV;have GE:=HPEV;have GRS:=HRSV;have GRB:=HRBV;have GK:=N;have GG:=a1;exact Om
   go_wp2_with fail;refine(j6 me ac I).mono ?_;rintro e w2⟨rfl,h2⟩;have h2':=h2.symm;subst h2';clear h2;unfold ga;go_wp2_with fail;have hkk:vi s ses me d=me:=by rw[o.out,if_pos (by simp[ac])]
   rw[hkk];exact⟨rfl,Uh HA2,fun _=>rfl,fun h=>absurd h ac⟩
end
end
section
def Fs(y)(ses:Int)(u:nD)(sb hb:Nat)(w:UN)(h1:w.heap[sb]?=Ts (Tq #[Ti Tl ses] 3 (0,0)))(c:w.heap[hb]?=Ts (Tq #[ag u.1,ag u.2] 56 (0,0))):
  VB UB 43 #[p4 y,UK (Ts ⟨sb,0,U8⟩),UK (Ts ⟨hb,0,U8⟩)] w (bM (U1 (y.ses==ses&&y.body==u)) w):=by
 refine P4 h1 c fun p r=>have n2:=fun w=>Av y.body u w;?_;unfold p4;refine P1 w.heap.size fun E g=>have q:=Tn g;P1 (dX w [Tq #[Ti Tl y.ses,Ti Tl y.ser,ag y.body.1,ag y.body.2] 68]) fun f No=>have d:=No;?_;simp only[dX]at d;refine P4 (bZ No) (ei No g) fun b j=>P4 (ai p b) (ai r b) fun o m=>PR j fun c0 c1 c2 c3=>have s0:=Uc f sb 0 _ _ _ o;PM m fun x t=>?_;go_enter func43,ntmps43;go_upto_region 1 with fail;try rw[d]
 try rw[g]
 refine aG (fun w'=>f=w') rfl ?_;repeat
  (first|refine az rfl rfl rfl rfl ?_|refine aF rfl rfl rfl rfl ?_|refine aw rfl ?_|refine aj rfl rfl rfl rfl rfl ?_|((first|refine av (v:=?_) rfl rfl (fun hb w' l=>?_) ?_|refine ar (v:=?_) rfl rfl rfl (fun s hb w' l=>?_) ?_|refine ax (v:=?_) rfl (fun w' l=>?_) ?_);rotate_left;(focus(subst l;unfold ak;go_simp;first|exact aD rfl))))
  simp only[Ua,P7]
 refine aA fun w' g=>?_;subst g;go_wp2;go_ret;exact⟨rfl,b⟩
def Bb(c:nt)(s:dp)(ses:Int)(b:au)(cm:List bq):Int:=if s.bad=false/\s.done.any (fun y=>y.ses==ses&&y.body==bF b)=false then 221 else pQ c s.share ses b cm
section
attribute [local irreducible] ak aN
def Hp(D:Nat)(V:UN)(sh:bq)(ses:Int)(a:Option VW)(f:Nat)(bc:Nat)(b:Int)(j:Int)(ck:Nat)(pa:Option VW)(d:Nat)(pc:Nat)(ma:Option VW)(mn:Nat)(mc:Nat)(k:Int)(c:bq):List (UV->UN->Prop):=
 [ev (UT #[Ti Tl b,Ti Tl j,ag ck,Tm pa d pc]),
  ev (UK (Ts ⟨D,0,U8⟩)),
  ev (UK (Ts ⟨D,0,U8⟩)),
  ev (UK (Ts ⟨D,0,U8⟩)),
  ev (UT #[Ti Tl sh.id,ag sh.x]),
  ev (Ti Tl ses),
  ev (Tm a f bc),
  ev (Tm ma mn mc),
  ev (UW #[UT #[Ti Tl c.id,ag c.x],Ti Tl k]),
  ev (UW #[UT #[Ti Tl c.id,ag c.x],Ti Tl k]),
  ev (UT #[Ti Tl c.id,ag c.x]),
  ev (Ti Tl k),
  fun v w=>∃g,v=UK (Ts ⟨g,0,U8⟩)/\V.heap.size<=g/\w.heap[g]?=Ts (Tq #[Ti Tl 0,Ti Tt 0] 39 (0,0)),
  tv,
  ev (Ti Tl k)]
def adA(D:Nat)(V:UN)(sh:bq)(ses:Int)(a:Option VW)(f:Nat)(bc:Nat)(b:Int)(j:Int)(ck:Nat)(pa:Option VW)(d:Nat)(pc:Nat)(ma:Option VW)(mn:Nat)(mc:Nat)(k:Int)(c:bq):List (UV->UN->Prop):=
 Hp D V sh ses a f bc b j ck pa d pc ma mn mc k c|>.set 12 (fun v w=>∃g,v=UK (Ts ⟨g,0,U8⟩)/\V.heap.size<=g/\w.heap[g]?=Ts (Tq #[Ti Tl c.id,ag c.x] 39 (0,0)))
def jA{p:Prop}(h:p:=by
  intro s vs w' hlo hhi hl hK hd;rcases(show s=0\/s=1 from Ph)with rfl|rfl<;>try omega
  all_goals first
  |(
    have HK0:Hid (aq W4 w'):=hK;clear hK;simp only[aK,Ua,PV];(try rw[dq hd 1 Pj rfl]);(try rw[dq hd 2 Pj rfl]);(try rw[dq hd 3 Pj rfl]);(try rw[dq hd 8 Pj rfl]);(try rw[dq hd 9 Pj rfl]);have HL:=Tn hl;clear hd hl;(try(have z0:=ae (Uc _ wb 0 _ _ _ HRW4) HK0;have z1:=ae (Uc _ wb 1 _ _ _ HRW4) HK0;have z2:=ae (Uc _ wb 2 _ _ _ HRW4) HK0;have z3:=ae (Uc _ wb 3 _ _ _ HRW4) HK0));(try(have hr:=ai HPD4 HK0;refine PM hr fun z0 z1=>?_));(try(have z:=ae (Uc _ sb 0 _ _ _ HRS4) HK0));(try(have z:=ae (Uc _ bb 0 _ _ _ HRB4) HK0));(try(have z:=ae (Uc _ mb 0 _ _ _ HRM4) HK0));unfold ak;go_simp
    exact⟨rfl,P0⟩)
  |(
    have HK0:Hid (aq W4 w'):=hK;clear hK;simp only[aK,Ua,PV];(try rw[dq hd 0 Pj rfl]);(try rw[dq hd 1 Pj rfl]);(try rw[dq hd 2 Pj rfl]);(try rw[dq hd 3 Pj rfl]);(try rw[dq hd 4 Pj rfl]);(try rw[dq hd 5 Pj rfl]);(try rw[dq hd 6 Pj rfl]);(try rw[dq hd 7 Pj rfl]);(try rw[dq hd 8 Pj rfl]);(try rw[dq hd 9 Pj rfl]);(try rw[dq hd 10 Pj rfl]);(try rw[dq hd 11 Pj rfl]);(try(have h_12:=hd 12 Pj;simp only[Ua,PV,adA,Hp]at h_12;refine UX h_12 fun g h_12=>?_;have hv_12:=h_12.1;refine P4 h_12.2.1 h_12.2.2 fun H_12_0 H_12_1=>?_;clear h_12;rw[hv_12];clear hv_12));have HL:=Tn hl;clear hd hl;unfold ak;go_simp
    exact⟨rfl,P0⟩)):p:=h
def Fi(s x ses)(b:au)(bv)(c0:nt)(pa pc)(cm:List bq)(ma mc)(sb bb wb mb:Nat)(w)(hb:aJ w bv b)(hbl:b.length<=1000000)(hrs:w.heap[sb]?=Ts (Tq #[Ti Tl ses] 3 (0,0)))(hrb:w.heap[bb]?=Ts (Tq #[bv] 37 (0,0)))(hrw:w.heap[wb]?=Ts (Tq #[Ti Tl c0.t,Ti Tl c0.n,ag c0.key,Tm pa c0.parts.length pc] 33 (0,0)))(hrm:w.heap[mb]?=Ts (Tq #[Tm ma cm.length mc] 31 (0,0)))(hcw:mC w c0 pa pc)(hcl:cm.length<=mc)(hcx:mc<=9223372036854775807)(hcb:cm.length<=1000000)(hcs:cr 2 eF w ma cm)(hC:dQ w s x)(m:s.share.x<2^64)(hdl:s.done.length<=1000000):
  Ot 41 #[UK (Ts ⟨bb,0,U8⟩),UK (Ts ⟨sb,0,U8⟩),UK (Ts ⟨wb,0,U8⟩),UK (Ts ⟨mb,0,U8⟩)] w s x (Bb c0 s ses b cm) s (jG c0 s.share ses b cm):=by
 refine⟨Vv func41 Pg rfl,fun f D C hDD hr0=>?_⟩;have V:Bb c0 s ses b cm=if s.bad=false/\s.done.any (fun y=>y.ses==ses&&y.body==bF b)=false then 221 else pQ c0 s.share ses b cm:=rfl
 refine P1 (Bb c0 s ses b cm) fun K hKn=>?_;rw[hKn]at V⊢;refine P1 s.bad fun bad Y=>P1 s.share fun sh R=>P1 s.done.length fun n hn=>?_;obtain⟨an,Z⟩:∃an,s.done.any (fun y=>y.ses==ses&&y.body==bF b)=an:=⟨_,rfl⟩;refine P1 (bF b) fun u X=>?_;obtain⟨a,bc,hbv⟩:=hb.form;subst hbv;refine P1 b.length fun bn a7=>P1 cm.length fun mn hmn=>P1 c0.parts.length fun pn hpn=>P4 (fun W(A:aq w W)=>Oc (cm:=cm) (msg:=b) (ma:=a) (mc:=bc) (ca:=ma) (cc:=mc) sh ses W (hcw.ext A) (by rw[<-R];exact m) (hb.ext A) hbl hcl hcx hcb (hcs.ext A)) (fun W(A:aq w W)=>fF b _ W (hb.ext A) Ph) fun a6 a8=>have hBX:aJ w (Tm a b.length bc) b:=hb;?_;rw[Y,Z,R]at V;rw[R];refine P1 (jG c0 sh ses b cm) fun c J=>P1 (pQ c0 sh ses b cm) fun kq hkq=>?_;rw[J,hkq]at a6;rw[hkq]at V;rw[J];unfold eU pB at a6;rw[a7,hmn,hpn]at a6;rw[a7,X]at a8;rw[a7]at hrb;rw[hmn]at hrm;rw[hpn]at hrw;rw[X]at Z;refine PH V Z hn hdl C (hC.ext C) hr0 Y R (ai hrs C) fun HPK HAN HN HDL B HSC0 HROW HBAD HSH HRS=>P3 (ai hrb C) (ai hrw C) (ai hrm C) fun HRB HRW HRM=>?_;clear hKn V Y R hn Z X a7 hmn hpn J hkq hdl hb hBX hbl hC C hr0 hDD hrs hrb hrw hrm hcw hcl hcx hcb hcs m;refine P1 f.heap.size fun E A=>have HSE:=Tn A;P1 (dX f [Tq #[Ti Tl 0,Ti Tt 0] 39]) fun W1 H=>have T:=H;?_;simp only[dX]at T;refine P4 (bZ H) (ei H A) fun q HP0=>?_;clear H;refine PG (aa B q) (HSC0.ext q) (ai HROW q) (ai HRS q) (ai HRB q) (ai HRW q) (ai HRM q) fun HE1 HSC1 HPD1 HRS1 HRB1 HRW1 HRM1=>have b0:=Uc W1 bb 0 _ _ _ HRB1;?_;go_enter func41,ntmps41;go_upto_region 1 with fail;try rw[T]
 try rw[A]
 clear T A;go_wp2_with fail;refine(a8 W1 HE1).mono ?_;rintro e I⟨rfl,hE2⟩;refine P4 (aa HE1 hE2) hE2 fun F HXA=>?_;clear b0 hE2;refine P1 I.heap.size fun G hG=>P1 (I.alloc (Tq #[Ti Tt (u.1:Int),Ti Tt (u.2:Int)] 56)) fun O ao=>have HX3:=Tn (show aq I O by rw[<-ao];exact af P0 _);have HRU:Hid (O.heap[G]?=Ts (Tq #[ag u.1,ag u.2] 56 (0,0))):=Tn (PP ao hG);P3 (aa F HX3) (aa q (aa HXA HX3)) (aa HXA HX3) fun Id HA3 p=>PG (HSC1.ext p) (ai HPD1 p) (ai HP0 p) (ai HRS1 p) (ai HRB1 p) (ai HRW1 p) (ai HRM1 p) fun HSC3 HPD3 HPE3 HRS3 HRB3 HRW3 HRM3=>?_;go_upto_region 2 with fail;try rw[ao]
 clear ao hG
 have HPX:Hid (O.heap[D]?=Ts (Tq #[Ti Tl sh.id,ag sh.x,U1 bad,U1 s.up,Tm x.da n x.dc,x.u,x.v] 44 (0,0))):=Tn (by
  have h:=HPD3.out;unfold oI at h;rw[HSH.out,HBAD.out,HN.out]at h
  exact h)
 have HPF:Hid (kI 43 #[UK (Ts ⟨sb,0,U8⟩),UK (Ts ⟨G,0,U8⟩)] O s.done p4 (fun y=>y.ses==ses&&y.body==u)):=Tn ⟨Vv func43 Pg rfl,fun y _ W hW=>Fs y ses u sb G W (ai HRS3 hW) (ai HRU hW)⟩
 have HCF:=Tn (fun W(A:aq O W)=>by
  have h:=sr 43 #[UK (Ts ⟨sb,0,U8⟩),UK (Ts ⟨G,0,U8⟩)] (fun y=>y.ses==ses&&y.body==u) s.done x.da n x.dc W (HPF.ext A) HN (by have:=HDL.out;have:=HN.out;omega) (by have:=HSC0.out.dl;have:=HN.out;omega) (HSC3.done.ext A);rw[HAN.out]at h
  exact h)
 have c2:=Uc O D 2 _ _ _ HPX;have c4:=Uc O D 4 _ _ _ HPX;refine aG (fun w'=>aq O w') P0 ?_;repeat
  (first|refine az rfl rfl rfl rfl ?_|refine aF rfl rfl rfl rfl ?_|refine aw rfl ?_|refine aj rfl rfl rfl rfl rfl ?_|((first|refine av (v:=?_) rfl rfl (fun hb w' l=>?_) ?_|refine ar (v:=?_) rfl rfl rfl (fun hb1 hb w' l=>?_) ?_|refine ax (v:=?_) rfl (fun w' l=>?_) ?_);rotate_left;(focus(have z2:=ae c2 l;have z4:=ae c4 l;unfold ak;go_simp;first|exact aD l|(go_at_call 42;refine(HCF _ l).mono ?_;rintro e w''⟨rfl,U⟩;exact aH (aa l U))))))
  simp only[Ua,P7]
 refine aA fun W4 d=>PH (aa Id d) (aa HA3 d) (HSC3.ext d) (ai HPX d) (ai HPD3 d) (ai HPE3 d) (ai HRS3 d) (ai HRB3 d) (ai HRW3 d) (ai HRM3 d) fun HE4 HA4 HSC4 HPD4 HPF4 HPE4 HRS4 HRB4 HRW4 HRM4=>?_;clear c2 c4 d;refine P1 (!bad&& !an) fun z hz=>?_;rw[hz];have HZ:=Tn hz;clear hz;cases z with
 |true=>
  have a1:K=221:=by
   have h:=HZ.out;rw[HPK.out,if_pos];cases bad<;>cases an<;>simp_all
  go_wp2_with fail;refine(j6 221 Pi W4).mono ?_;rintro e w2⟨rfl,U⟩;have P:=U.symm;subst P;clear U;unfold ga;go_wp2_with fail;try rw[a1]
  exact⟨rfl,Uh HA4,fun _=>rfl,fun h=>absurd h Pi⟩
 |false=>
  have a1:K=kq:=by
   have h:=HZ.out;rw[HPK.out,if_neg];cases bad<;>cases an<;>simp_all
  go_wp2_with fail;have X0:EX (Hp D W4 sh ses a bn bc c0.t c0.n c0.key pa pn pc ma mn mc kq c):=by repeat first|exact Gl|refine EC ?_|refine Gx ?_|refine Ek (fun v w w'⟨g,t9,L,h1⟩A=>⟨g,t9,L,ai h1 A⟩) ?_
  refine(WV (n:=0)).1 ?_;refine bu (r:=U8) 15 [13] [cT,cT,cT,cT,cT,cT,cT,cT,cT,cT,cT,(false,0,1),cT,(true,0,0),(false,1,1)] [Ts 28,Ts 29,Ts 30,Ts 31,Ts 32,Ts 33,Ts 34,Ts 35,Ts 36,Ts 27,Ts 37,Ts 38,Ts 8,U8,Ts 9] Pg Pg Pg [aq W4,aq W4] (ss yk yk) [Hp D W4 sh ses a bn bc c0.t c0.n c0.key pa pn pc ma mn mc kq c,adA D W4 sh ses a bn bc c0.t c0.n c0.key pa pn pc ma mn mc kq c] (ss X0 ((X0.set (fun v w w'⟨g,t9,L,h1⟩A=>⟨g,t9,L,ai h1 A⟩)))) ?k0 ?steps ?fin
  case k0=>exact ap W4
  case steps=>
   refine⟨jA,jA,jA,jA,jA,jA,jA,jA,?_,jA,jA,jA,?_,?_,jA,trivial⟩
   .intro s vs w' hlo hhi hl hK hd;obtain rfl:s=0:=Ph;clear hlo hhi;have HK0:Hid (aq W4 w'):=hK;clear hK;simp only[aK,Ua,PV];(try rw[dq hd 0 Pg rfl]);(try rw[dq hd 4 Pg rfl]);(try rw[dq hd 5 Pg rfl]);(try rw[dq hd 6 Pg rfl]);(try rw[dq hd 7 Pg rfl]);have HL:=Tn hl;clear hd hl;unfold ak;go_simp;go_at_call 44;refine(a6 _ (aa HE4 HK0)).mono ?_;exact Zcz
   .intro s vs w' hlo hhi hl hK hd;obtain rfl:s=0:=Ph;clear hlo hhi;have HK0:Hid (aq W4 w'):=hK;exact Tj
   intro vs w' hl hK hd;have HK0:Hid (aq W4 w'):=hK;clear hK;have t9:=hd 0 Pi Pg;have a5:=hd 1 Pi Pg;have a3:=hd 2 Pi Pg;have ah:=hd 3 Pi Pg;have ac:=hd 4 Pi Pg;have ab:=hd 5 Pi Pg;have ad:=hd 6 Pi Pg;have a4:=hd 7 Pi Pg;have al:=hd 8 Pi Pg;have a2:=hd 9 Pi Pg;have M:=hd 10 Pi Pg;have h_12:=hd 12 Pi Pg;simp only[PW,Hp]at t9 a5 a3 ah ac ab ad a4 al a2 M h_12;refine UX h_12 fun g h_12=>have hv_12:=h_12.1;P4 h_12.2.1 h_12.2.2 fun H_12_0 H_12_1=>?_;clear h_12;simp only[aK,Ua,PV];(try rw[t9]);(try rw[a5]);(try rw[a3]);(try rw[ah]);(try rw[ac]);(try rw[ab]);(try rw[ad]);(try rw[a4]);(try rw[al]);(try rw[a2]);(try rw[M]);(try rw[hv_12]);refine PH t9 a5 a3 ah ac ab ad a4 al hv_12 fun Kh_0 Kh_1 Kh_2 Kh_3 Kh_4 Kh_5 Kh_6 Kh_7 Kh_8 a0=>?_;clear t9 a5 a3 ah ac ab ad a4 al a2 M hv_12;have HL:=Tn hl;clear hd hl;have j:=Tn (dt H_12_1 (Ti Tl c.id) (ag c.x));refine PM H_12_1 fun e0 am=>PO H_12_1 fun fz0 fz1=>bg fun Post hP=>have HP:=Tn hP;?_;clear hP;unfold aN;go_simp;refine HP.out _ _ ⟨HK0.trans (j.2.below HK0.size (fun i hi=>by have:=H_12_0.out;have e':i=g:=hi;omega)),trivial,(by intro i_ h;(iterate 15 rcases i_ with _|i_;focus first|exact(h:_=_)|exact⟨g,a0,H_12_0,j.1⟩|trivial);trivial)⟩
  intro vs w' hl hK hd;have HK0:Hid (aq W4 w'):=hK;clear hK;have h_12:=hd 12 Pi;simp only[Up,VJ,Ua,PV,adA,Hp]at h_12;refine UX h_12 fun g h_12=>have hv_12:=h_12.1;P4 h_12.2.1 h_12.2.2 fun H_12_0 H_12_1=>?_;clear h_12;have Q:=hd 14 Pi;simp only[Up,VJ,Ua,PV,adA,Hp]at Q;simp only[aK,Ua,PV];rw[hv_12,Q];clear hv_12 Q;iterate 12 (try generalize vs.getD _ VM=xq)
  clear hd hl;refine PC H_12_0.out H_12_1.out (ai HPE4 HK0) (ai HPF4 HK0) (HSC4.ext HK0) fun HGG HPG N HPD9 HSC9=>have HF9:Hid (Fr (fun i=>i=D) f w'):=Tn ((Uh HA4).trans (Uh HK0));?_;obtain⟨S,hW9⟩:∃S,S=w':=⟨_,rfl⟩;subst hW9;clear HK0 H_12_0 H_12_1;have HGE:Hid (g≠E/\E≠D):=Tn (by have h1:=(UE.1 HPE4).1;have U:=(UE.1 HROW).1;have:=HGG.out;have:=HSE.out;omega);by_cases o:kq=0
  .subst o;go_wp2_with fail;refine(p8 S).mono ?_;rintro e w2⟨rfl,U⟩;have P:=U.symm;subst P;clear U;refine PM HPG fun g0 g1=>PM N fun e0 am=>PO N fun fz0 fz1=>have j:=Tn (dt N (Ti Tl c.id) (ag c.x));PI S E (Ti Tl c.id) (ag c.x) fun V9 hV9=>?_;rw[hV9]at j;go_wp2_with fail;(try rw[hV9]);refine PM j.1 fun q0 q1=>VC (v:=UT #[Ti Tl c.id,ag c.x]) (by simp[Vo,results41,go_sem,q0,q1]) rfl ?_;(try rw[a1]);exact⟨HF9.onto j.2 (fun i hi e=>Qz),fun h=>absurd rfl h,fun _=>⟨rfl,x,aM HPD9 j.2 (by have:=HGE.out;omega),HSC9.off j.2 (nq (y:=0) N)⟩⟩
  go_wp2_with fail;refine(j6 kq o S).mono ?_;rintro e w2⟨rfl,U⟩;have P:=U.symm;subst P;clear U;unfold ga;go_wp2_with fail;(try rw[a1]);exact⟨rfl,HF9,fun _=>rfl,fun h=>absurd h o⟩
end
end
section
def NV{B:Nat}{f j m l g d:UV}(hr:w.heap[B]?=Ts (Tq #[x0,f,j,m,l,g,d] t (0,0)))(c:UV):
  (w.setCell ⟨B,3,U8⟩ c).heap[B]?=Ts (Tq #[x0,f,j,c,l,g,d] t (0,0))/\Fr (fun i=>i=B) w (w.setCell ⟨B,3,U8⟩ c):=⟨(VE _ B 3 _ _ _ hr).trans Pm,Uz (S:=fun b=>b=B) _ ⟨B,3,U8⟩ _ rfl⟩
section
attribute [local irreducible] ak aN
def wD(D:Nat)(V:UN)(keep:Int)(j:Option VW)(f:Nat)(l:Nat)(d:Option VW)(b:Nat)(c:Nat)(k:Int)(st:lP):List (UV->UN->Prop):=
 [ev (UK (Ts ⟨D,0,U8⟩)),
  ev (UK (Ts ⟨D,0,U8⟩)),
  ev (UK (Ts ⟨D,5,U8⟩)),
  ev (UT #[Tm j f l,Tm d b c]),
  ev (Ti Tl keep),
  ev (UK (Ts ⟨D,0,U8⟩)),
  ev (UK (Ts ⟨D,0,U8⟩)),
  ev (UK (Ts ⟨D,5,U8⟩)),
  ev (UK (Ts ⟨D,6,U8⟩)),
  ev (Tm d b c),
  ev (Ti Tl (b:Int)),
  ev (Ti Tl (min keep (b:Int))),
  fun v w=>∃a5 n5 c5 b5 m5 d5,v=UW #[UT #[Tm a5 n5 c5,Tm b5 m5 d5],Ti Tl k]/\(k=0->gn w (Tm a5 n5 c5) (Tm b5 m5 d5) st),
  fun v w=>∃a5 n5 c5 b5 m5 d5,v=UW #[UT #[Tm a5 n5 c5,Tm b5 m5 d5],Ti Tl k]/\(k=0->gn w (Tm a5 n5 c5) (Tm b5 m5 d5) st),
  fun v w=>∃a5 n5 c5 b5 m5 d5,v=UT #[Tm a5 n5 c5,Tm b5 m5 d5]/\(k=0->gn w (Tm a5 n5 c5) (Tm b5 m5 d5) st),
  ev (Ti Tl k),
  fun v w=>∃g,v=UK (Ts ⟨g,0,U8⟩)/\V.heap.size<=g/\w.heap[g]?=Ts (Tq #[zz,zz] 42 (0,0)),
  tv,
  ev (Ti Tl k)]
def Ob(D:Nat)(V:UN)(keep:Int)(c:Option VW)(b:Nat)(f:Nat)(l:Option VW)(d:Nat)(j:Nat)(k:Int)(st:lP):List (UV->UN->Prop):=
 wD D V keep c b f l d j k st|>.set 12 tv|>.set 13 (fun v _=>∃a5 n5 c5 b5 m5 d5,v=UW #[UT #[Tm a5 n5 c5,Tm b5 m5 d5],Ti Tl k])|>.set 14 tv|>.set 16 (fun v w=>∃g a5 n5 c5 b5 m5 d5,v=UK (Ts ⟨g,0,U8⟩)/\V.heap.size<=g/\w.heap[g]?=Ts (Tq #[Tm a5 n5 c5,Tm b5 m5 d5] 42 (0,0))/\(k=0->gn w (Tm a5 n5 c5) (Tm b5 m5 d5) st))
def ic{p:Prop}(h:p:=by
  intro s vs w' hlo hhi hl hK hd;rcases(show s=0\/s=1 from Ph)with rfl|rfl<;>try omega
  all_goals first
  |(
    have HK0:Hid (aq W1 w'):=hK;clear hK;simp only[aK,Ua,PV];(try rw[dq hd 0 Pj rfl]);(try rw[dq hd 1 Pj rfl]);(try rw[dq hd 2 Pj rfl]);(try rw[dq hd 4 Pj rfl]);(try rw[dq hd 5 Pj rfl]);(try rw[dq hd 6 Pj rfl]);(try rw[dq hd 7 Pj rfl]);(try rw[dq hd 8 Pj rfl]);(try rw[dq hd 9 Pj rfl]);(try rw[dq hd 10 Pj rfl]);(try(have h_13:=hd 13 Pj;simp only[PW,wD]at h_13;refine UX h_13 fun a5 h_13=>UX h_13 fun n5 h_13=>UX h_13 fun c5 h_13=>UX h_13 fun b5 h_13=>UX h_13 fun m5 h_13=>UX h_13 fun d5 h_13=>?_;have hv_13:=h_13.1;have H_13_0:=Tn h_13.2;clear h_13;rw[hv_13];clear hv_13));have HL:=Tn hl;clear hd hl;(try(have z5:=ae (Uc _ D 5 _ _ _ HPD1) HK0;have z6:=ae (Uc _ D 6 _ _ _ HPD1) HK0));(try(have z:=ae (Uc _ kb 0 _ _ _ HRK1) HK0));unfold ak;go_simp
    exact⟨rfl,P0⟩)
  |(
    have HK0:Hid (aq W1 w'):=hK;clear hK;simp only[aK,Ua,PV];(try rw[dq hd 0 Pj rfl]);(try rw[dq hd 1 Pj rfl]);(try rw[dq hd 2 Pj rfl]);(try rw[dq hd 3 Pj rfl]);(try rw[dq hd 4 Pj rfl]);(try rw[dq hd 5 Pj rfl]);(try rw[dq hd 6 Pj rfl]);(try rw[dq hd 7 Pj rfl]);(try rw[dq hd 8 Pj rfl]);(try rw[dq hd 9 Pj rfl]);(try rw[dq hd 10 Pj rfl]);(try rw[dq hd 11 Pj rfl]);(try(have h_13:=hd 13 Pj;simp only[Ua,PV,Ob,wD]at h_13;refine UX h_13 fun a5 h_13=>UX h_13 fun n5 h_13=>UX h_13 fun c5 h_13=>UX h_13 fun b5 h_13=>UX h_13 fun m5 h_13=>UX h_13 fun d5 h_13=>?_;have hv_13:=h_13;clear h_13;rw[hv_13];clear hv_13));(try rw[dq hd 15 Pj rfl]);(try(have h_16:=hd 16 Pj;simp only[Ua,PV,Ob,wD]at h_16;refine UX h_16 fun g h_16=>UX h_16 fun a5 h_16=>UX h_16 fun n5 h_16=>UX h_16 fun c5 h_16=>UX h_16 fun b5 h_16=>UX h_16 fun m5 h_16=>UX h_16 fun d5 h_16=>?_;have hv_16:=h_16.1;refine P3 h_16.2.1 h_16.2.2.1 h_16.2.2.2 fun H_16_0 H_16_1 H_16_2=>?_;clear h_16;rw[hv_16];clear hv_16));have HL:=Tn hl;clear hd hl;unfold ak;go_simp
    exact⟨rfl,P0⟩)):p:=h
def JM(D:Nat)(a5:Option VW)(n5:Nat)(c5:Nat)(b5:Option VW)(m5:Nat)(d5:Nat):List (UV->UN->Prop):=
 [ev (UK (Ts ⟨D,0,U8⟩)),
  ev (UK (Ts ⟨D,0,U8⟩)),
  ev (UK (Ts ⟨D,0,U8⟩)),
  ev (UT #[Tm a5 n5 c5,Tm b5 m5 d5]),
  ev (UK (Ts ⟨D,0,U8⟩)),
  ev (UK (Ts ⟨D,3,U8⟩)),
  tv,
  ev (UK (Ts ⟨D,0,U8⟩)),
  ev (UK (Ts ⟨D,4,U8⟩)),
  tv,
  ev (UK (Ts ⟨D,0,U8⟩)),
  ev (UK (Ts ⟨D,5,U8⟩)),
  tv]
def OZ(D:Nat)(a5:Option VW)(n5:Nat)(c5:Nat)(b5:Option VW)(m5:Nat)(d5:Nat):List (UV->UN->Prop):=
 JM D a5 n5 c5 b5 m5 d5
def aaS(D:Nat)(V:UN)(c:Int)(sx:Nat)(bad:Bool)(da:Option VW)(n:Nat)(dc:Nat)(d:Option VW)(b:Nat)(g:Nat)(l:Option VW)(f:Nat)(j:Nat)(w:UN):Prop:=w.heap[D]?=Ts (Tq #[Ti Tl c,ag sx,U1 bad,U1 false,Tm da n dc,Tm d b g,Tm l f j] 44 (0,0))/\Fr (fun i=>i=D) V w
def aa4(D:Nat)(a5:Option VW)(n5:Nat)(c5:Nat)(b5:Option VW)(m5:Nat)(d5:Nat):List (UV->UN->Prop):=
 OZ D a5 n5 c5 b5 m5 d5
def Nv(D:Nat)(V:UN)(c:Int)(sx:Nat)(bad:Bool)(d:Option VW)(b:Nat)(g:Nat)(l:Option VW)(f:Nat)(j:Nat)(w:UN):Prop:=w.heap[D]?=Ts (Tq #[Ti Tl c,ag sx,U1 bad,U1 false,zz,Tm d b g,Tm l f j] 44 (0,0))/\Fr (fun i=>i=D) V w
def ai7(D:Nat)(a5:Option VW)(n5:Nat)(c5:Nat)(b5:Option VW)(m5:Nat)(d5:Nat):List (UV->UN->Prop):=
 aa4 D a5 n5 c5 b5 m5 d5
def aeH(D:Nat)(V:UN)(b:Int)(sx:Nat)(bad:Bool)(a5:Option VW)(n5:Nat)(c5:Nat)(b5:Option VW)(m5:Nat)(d5:Nat)(w:UN):Prop:=w.heap[D]?=Ts (Tq #[Ti Tl b,ag sx,U1 bad,U1 false,zz,Tm a5 n5 c5,Tm b5 m5 d5] 44 (0,0))/\Fr (fun i=>i=D) V w
def lK{p:Prop}(h:p:=by
  intro s vs w' hlo hhi hl hK hd;rcases(show s=0\/s=1\/s=2\/s=3 from Ph)with rfl|rfl|rfl|rfl<;>try omega
  all_goals first
  |(
    have HK0:Hid (aq W4 w'):=hK;clear hK;simp only[aK,Ua,PV];(try rw[dq hd 0 Pj rfl]);(try rw[dq hd 4 Pj rfl]);have HL:=Tn hl;clear hd hl;(try(have hr:=ai HPG4 HK0;refine PM hr fun z0 z1=>?_));unfold ak;go_simp
    exact⟨rfl,P0⟩)
  |(
    have hk:=hK;simp only[PW]at hk;unfold aaS at hk;refine P4 hk.1 hk.2 fun HK0 HK1=>?_;clear hk hK;simp only[aK,Ua,PV];(try rw[dq hd 0 Pj rfl]);(try rw[dq hd 1 Pj rfl]);(try rw[dq hd 4 Pj rfl]);(try rw[dq hd 5 Pj rfl]);(try rw[dq hd 7 Pj rfl]);have HL:=Tn hl;clear hd hl;(try(have hr:=aM HPG4 HK1 Qe;refine PM hr fun z0 z1=>?_));unfold ak;go_simp
    exact⟨rfl,P0⟩)
  |(
    have hk:=hK;simp only[PW]at hk;unfold Nv at hk;refine P4 hk.1 hk.2 fun HK0 HK1=>?_;clear hk hK;simp only[aK,Ua,PV];(try rw[dq hd 0 Pj rfl]);(try rw[dq hd 1 Pj rfl]);(try rw[dq hd 2 Pj rfl]);(try rw[dq hd 3 Pj rfl]);(try rw[dq hd 4 Pj rfl]);(try rw[dq hd 5 Pj rfl]);(try rw[dq hd 7 Pj rfl]);(try rw[dq hd 8 Pj rfl]);(try rw[dq hd 10 Pj rfl]);have HL:=Tn hl;clear hd hl;(try(have hr:=aM HPG4 HK1 Qe;refine PM hr fun z0 z1=>?_));unfold ak;go_simp
    exact⟨rfl,P0⟩)):p:=h
def Gf(s x keep)(kb:Nat)(w:UN)(hrk:w.heap[kb]?=Ts (Tq #[Ti Tl keep] 3 (0,0)))(hC:dQ w s x):
  Ot 45 #[UK (Ts ⟨kb,0,U8⟩)] w s x (fg s.store (min keep s.store.opn.length)) (gB s keep) ⟨0,0⟩:=by
 refine⟨Vv func45 Pg rfl,fun f D hE0 hDD R=>?_⟩;obtain⟨⟨si,sx⟩,bad,up,done,sto⟩:=s;obtain⟨da,dc,u,v⟩:=x;obtain⟨ua,uc,va,vc,X,hv⟩:=hC.sto.form;dsimp only at X hv;subst X hv;have HSC:=Tn hC.sto;unfold gB;unfold oI at R;dsimp only at R HSC⊢;refine P1 done.length fun n hn=>P1 sto.safe.length fun un hun=>P1 sto.opn.length fun vn V=>?_;rw[hun,V]at HSC;rw[hn,hun,V]at R;rw[V];have HWC:=Tn (fun W(F:aq w W)=>EH sto (min keep (vn:Int)) _ _ W (HSC.ext F));refine P1 (fg sto (min keep (vn:Int))) fun k hk=>P1 (iM sto (min keep (vn:Int))) fun st hst=>?_;rw[hk,hst]at HWC;rw[hk,hst];refine P3 hE0 R (ai hrk hE0) fun B HROW HRK=>P1 f.heap.size fun E F=>have HSE:=Tn F;P1 (dX f [Tq #[Ti Tl 0,Ti Tt 0] 39]) fun W1 K=>have T:=K;?_;simp only[dX]at T;refine P4 (bZ K) (ei K F) fun Y HP0=>P3 (aa B Y) (ai HROW Y) (ai HRK Y) fun HE1 HPD1 HRK1=>?_;go_enter func45,ntmps45;go_upto_region 1 with fail;try rw[T]
 try rw[F]
 have X0:EX (wD D W1 keep ua un uc va vn vc k st):=by repeat first|exact Gl|refine EC ?_|refine Gx ?_|refine Ek (fun v w w'⟨a5,n5,c5,b5,m5,d5,t9,L⟩F=>⟨a5,n5,c5,b5,m5,d5,t9,(fun e=>(L e).ext F)⟩) ?_|refine Ek (fun v w w'⟨g,t9,L,h1⟩F=>⟨g,t9,L,ai h1 F⟩) ?_
 refine(WV (n:=0)).1 ?_;refine bu (r:=U8) 19 [17] [cT,cT,cT,cT,cT,cT,cT,cT,cT,cT,cT,cT,cT,cT,cT,(false,0,1),cT,(true,0,0),(false,1,1)] [Ts 7,Ts 8,Ts 9,Ts 10,Ts 11,Ts 12,Ts 13,Ts 14,Ts 15,Ts 16,Ts 17,Ts 18,Ts 19,Ts 6,Ts 20,Ts 21,Ts 4,U8,Ts 5] Pg Pg Pg [aq W1,aq W1] (ss yk yk) [wD D W1 keep ua un uc va vn vc k st,Ob D W1 keep ua un uc va vn vc k st] (ss X0 (((X0.stv.set (fun _ _ _ h _=>h)).stv.set (fun v w w'⟨g,a5,n5,c5,b5,m5,d5,t9,L,h1,c⟩F=>⟨g,a5,n5,c5,b5,m5,d5,t9,L,ai h1 F,(fun e=>(c e).ext F)⟩)))) ?k0 ?steps ?fin
 case k0=>exact ap W1
 case steps=>
  refine⟨ic,ic,ic,ic,ic,ic,ic,ic,ic,ic,ic,ic,?_,?_,?_,ic,?_,?_,ic,trivial⟩
  .intro s vs w' hlo hhi hl hK hd;obtain rfl:s=0:=Ph;have HK0:Hid (aq W1 w'):=hK;simp only[aK,Ua,PV];(try rw[dq hd 3 Pg rfl]);(try rw[dq hd 11 Pg rfl]);have HL:=Tn hl;unfold ak;go_simp;go_at_call 46;refine(HWC _ (aa HE1 HK0)).mono ?_;rintro e w5⟨u5,v5,rfl,hE5,hno,hyes⟩;by_cases hk:k=0
   .have hs5:=hyes hk;obtain⟨a5,c5,b5,d5,hu5,hv5⟩:=hs5.form;subst hu5 hv5;exact⟨_,rfl,⟨a5,_,c5,b5,_,d5,rfl,fun _=>hs5⟩,hE5⟩
   obtain⟨hu5,hv5⟩:=hno hk;subst hu5 hv5;exact⟨_,rfl,⟨U8,0,0,U8,0,0,rfl,fun e=>absurd e hk⟩,hE5⟩
  .intro s vs w' hlo hhi hl hK hd;obtain rfl:s=0:=Ph;have HK0:Hid (aq W1 w'):=hK;have b:=hd 12 Pg;simp only[PW,wD]at b;refine UX b fun a5 b=>UX b fun n5 b=>UX b fun c5 b=>UX b fun b5 b=>UX b fun m5 b=>UX b fun d5 b=>have C:=b.1;have M:=Tn b.2;?_;simp only[aK,Ua,PV];(try rw[C]);have HL:=Tn hl;unfold ak;go_simp;exact⟨⟨a5,n5,c5,b5,m5,d5,rfl,M⟩,P0⟩
  .intro s vs w' hlo hhi hl hK hd;obtain rfl:s=0:=Ph;have HK0:Hid (aq W1 w'):=hK;have h_13:=hd 13 Pg;simp only[PW,wD]at h_13;refine UX h_13 fun a5 h_13=>UX h_13 fun n5 h_13=>UX h_13 fun c5 h_13=>UX h_13 fun b5 h_13=>UX h_13 fun m5 h_13=>UX h_13 fun d5 h_13=>have hv_13:=h_13.1;have H_13_0:=Tn h_13.2;?_;simp only[aK,Ua,PV];(try rw[hv_13]);have HL:=Tn hl;unfold ak;go_simp;exact⟨⟨a5,n5,c5,b5,m5,d5,rfl,H_13_0⟩,P0⟩
  .intro s vs w' hlo hhi hl hK hd;obtain rfl:s=0:=Ph;have HK0:Hid (aq W1 w'):=hK;simp only[aK,Ua,PV];have HL:=Tn hl;unfold ak;go_simp;exact⟨⟨_,rfl,HK0.size,UZ _ _⟩,af P0 _⟩
  intro vs w' hl hK hd;have HK0:Hid (aq W1 w'):=hK;have t9:=hd 0 Pi Pg;have z:=hd 1 Pi Pg;have I:=hd 2 Pi Pg;have H:=hd 3 Pi Pg;have m:=hd 4 Pi Pg;have l:=hd 5 Pi Pg;have ab:=hd 6 Pi Pg;have t:=hd 7 Pi Pg;have p:=hd 8 Pi Pg;have ad:=hd 9 Pi Pg;have q:=hd 10 Pi Pg;have o:=hd 11 Pi Pg;have b:=hd 12 Pi Pg;have h_13:=hd 13 Pi Pg;have d:=hd 14 Pi Pg;have h_16:=hd 16 Pi Pg;simp only[PW,wD]at t9 z I H m l ab t p ad q o b h_13 d h_16;refine UX b fun a5 b=>UX b fun n5 b=>UX b fun c5 b=>UX b fun b5 b=>UX b fun m5 b=>UX b fun d5 b=>have C:=b.1;have M:=Tn b.2;UX h_13 fun a5 h_13=>UX h_13 fun n5 h_13=>UX h_13 fun c5 h_13=>UX h_13 fun b5 h_13=>UX h_13 fun m5 h_13=>UX h_13 fun d5 h_13=>have hv_13:=h_13.1;have H_13_0:=Tn h_13.2;UX d fun a5 d=>UX d fun n5 d=>UX d fun c5 d=>UX d fun b5 d=>UX d fun m5 d=>UX d fun d5 d=>have J:=d.1;have Z:=Tn d.2;UX h_16 fun g h_16=>have hv_16:=h_16.1;P4 h_16.2.1 h_16.2.2 fun H_16_0 H_16_1=>?_;simp only[aK,Ua,PV];(try rw[t9]);(try rw[z]);(try rw[I]);(try rw[H]);(try rw[m]);(try rw[l]);(try rw[ab]);(try rw[t]);(try rw[p]);(try rw[ad]);(try rw[q]);(try rw[o]);(try rw[C]);(try rw[hv_13]);(try rw[J]);(try rw[hv_16]);refine PH t9 z I H m l ab t p q fun S ah Kh_2 Kh_3 O Q Kh_6 Kh_7 Kh_8 Kh_10=>PC o hv_16 hl (dt H_16_1 (Tm a5 n5 c5) (Tm b5 m5 d5)) (oV H_16_1) fun Kh_11 ac HL j HOF=>PM H_16_1 fun e0 am=>PO H_16_1 fun fz0 fz1=>bg fun U N=>have HP:=Tn N;?_;unfold aN;go_simp;refine HP.out _ _ ⟨HK0.trans (j.2.below HK0.size (fun i hi=>by have:=H_16_0.out;have e':i=g:=hi;omega)),trivial,(by intro i_ h;(iterate 19 rcases i_ with _|i_;focus first|exact(h:_=_)|trivial|(obtain⟨a5,n5,c5,b5,m5,d5,h,_⟩:=h;exact⟨a5,n5,c5,b5,m5,d5,h⟩)|exact⟨g,a5,n5,c5,b5,m5,d5,ac,H_16_0,j.1,fun e=>(Z e).off j.2 HOF⟩);trivial)⟩
 case fin=>
  intro vs w' hl hK hd;have HK0:Hid (aq W1 w'):=hK;have h_16:=hd 16 Pi;simp only[Up,VJ,Ua,PV,Ob,wD]at h_16;refine UX h_16 fun g h_16=>UX h_16 fun a5 h_16=>UX h_16 fun n5 h_16=>UX h_16 fun c5 h_16=>UX h_16 fun b5 h_16=>UX h_16 fun m5 h_16=>UX h_16 fun d5 h_16=>have hv_16:=h_16.1;P3 h_16.2.1 h_16.2.2.1 h_16.2.2.2 fun H_16_0 H_16_1 H_16_2=>have P:=hd 18 Pi;?_;simp only[Up,VJ,Ua,PV,Ob,wD]at P;simp only[aK,Ua,PV];rw[hv_16,P];iterate 16 (try generalize vs.getD _ VM=xq)
  refine P9 HK0.out (ai HPD1 HK0) (ai HP0 HK0) H_16_0.out H_16_1.out H_16_2.out fun HX4 HPD4 HPE4 HGG HPG4 HST4=>?_;obtain⟨W4,hW4⟩:∃W4,W4=w':=⟨_,rfl⟩;subst hW4;have HDG:Hid (g≠D/\E≠D/\g≠E):=Tn (by have h1:=(UE.1 HPD1).1;have c:=(UE.1 HP0).1;have A:=(UE.1 HROW).1;have:=HGG.out;have:=HSE.out;omega);have HEX:=Tn (aa Y HX4);by_cases hk:k=0
  .subst hk;have HSC4:=Tn (HST4 rfl);go_wp2_with fail;refine P2 (p8 W4) fun w2 c=>have h2':=c.symm;?_;subst h2';go_wp2_with fail;have X0:EX (JM D a5 n5 c5 b5 m5 d5):=by repeat first|exact Gl|refine EC ?_|refine Gx ?_
   have X1:EX (OZ D a5 n5 c5 b5 m5 d5):=X0;have X2:EX (aa4 D a5 n5 c5 b5 m5 d5):=X1;refine(WV (n:=0)).1 ?_;refine bu (r:=U8) 13 [6,9,12] [cT,(false,0,1),(false,0,2),(false,0,2),cT,cT,(true,0,0),(false,1,1),(false,1,1),(true,1,0),(false,2,2),(false,2,2),(true,2,0)] [Ts 24,Ts 25,Ts 26,Ts 27,Ts 28,Ts 29,U8,Ts 30,Ts 31,U8,Ts 32,Ts 33,U8] Pg Pg Pg [aq W4,aaS D W4 si sx bad da n dc ua un uc va vn vc,Nv D W4 si sx bad ua un uc va vn vc,aeH D W4 si sx bad a5 n5 c5 b5 m5 d5] (BY yk QV QV QV) [JM D a5 n5 c5 b5 m5 d5,OZ D a5 n5 c5 b5 m5 d5,aa4 D a5 n5 c5 b5 m5 d5,ai7 D a5 n5 c5 b5 m5 d5] (BY X0 X1 X2 (X2)) ?k0 ?steps ?fin
   case k0=>exact ap W4
   case steps=>
    refine⟨lK,lK,lK,lK,lK,lK,?_,lK,lK,?_,lK,lK,?_,trivial⟩
    .intro vs w' hl hK hd;have HK0:Hid (aq W4 w'):=hK;have t9:=hd 0 Pi Pg;have m:=hd 4 Pi Pg;have l:=hd 5 Pi Pg;simp only[PW,JM]at t9 m l;simp only[aK,Ua,PV];(try rw[t9]);(try rw[m]);(try rw[l]);exact P5 t9 m l hl fun S O Q HL=>have hr:=ai HPD4 HK0;have j:=Tn (NV hr (U1 false));have e3:=Uc w' D 3 _ _ _ hr;have fz3:=VQ w' D 3 _ _ hr;bg fun U N=>have HP:=Tn N;Uk
    .intro vs w' hl hK hd;have hk:=hK;simp only[PW,aaS]at hk;refine P4 hk.1 hk.2 fun HK0 HK1=>have t9:=hd 0 Pi Pg;have z:=hd 1 Pi Pg;have m:=hd 4 Pi Pg;have l:=hd 5 Pi Pg;have t:=hd 7 Pi Pg;have p:=hd 8 Pi Pg;?_;simp only[Ua,PV,OZ,JM]at t9 z m l t p;simp only[aK,Ua,PV];(try rw[t9]);(try rw[z]);(try rw[m]);(try rw[l]);(try rw[t]);(try rw[p]);exact PG t9 z m l t p hl fun S ah O Q Kh_7 Kh_8 HL=>have hr:=HK0.out;have j:=Tn (Ba hr (zz));have e4:=Uc w' D 4 _ _ _ hr;have fz4:=VQ w' D 4 _ _ hr;bg fun U N=>have HP:=Tn N;Ty
    intro vs w' hl hK hd;have hk:=hK;simp only[PW,Nv]at hk;refine P4 hk.1 hk.2 fun HK0 HK1=>have t9:=hd 0 Pi Pg;have z:=hd 1 Pi Pg;have I:=hd 2 Pi Pg;have H:=hd 3 Pi Pg;have m:=hd 4 Pi Pg;have l:=hd 5 Pi Pg;have t:=hd 7 Pi Pg;have p:=hd 8 Pi Pg;have q:=hd 10 Pi Pg;have o:=hd 11 Pi Pg;?_;simp only[Ua,PV,aa4,OZ,JM]at t9 z I H m l t p q o;simp only[aK,Ua,PV];(try rw[t9]);(try rw[z]);(try rw[I]);(try rw[H]);(try rw[m]);(try rw[l]);(try rw[t]);(try rw[p]);(try rw[q]);(try rw[o]);exact PH t9 z I H m l t p q o fun S ah Kh_2 Kh_3 O Q Kh_7 Kh_8 Kh_10 Kh_11=>have HL:=Tn hl;have hr:=HK0.out;have j:=Tn (AT hr (Tm a5 n5 c5) (Tm b5 m5 d5));PZ hr fun e5 e6=>Pa hr fun fz5 fz6=>bg fun U N=>have HP:=Tn N;Ty
   case fin=>
    intro vs w' hl hK hd;have hk:=hK;simp only[Up,VJ,PW,aeH]at hk;refine P4 hk.1 hk.2 fun HK0 HK1=>?_;simp only[aK,Ua,PV];iterate 10 (try generalize vs.getD _ VM=xq)
    have G:=Tn (aM HPE4 HK1 Qe);obtain⟨W5,hW5⟩:∃W5,W5=w':=⟨_,rfl⟩;subst hW5;refine P4 (HSC4.off HK1 (ej HPD4).1) (dt G (Ti Tl 0) (Ti Tt 0)) fun HSC5 HF=>PM G fun e0 am=>PO G fun fz0 fz1=>PI W5 E (Ti Tl 0) (Ti Tt 0) fun W6 hW6=>?_;rw[hW6]at HF;refine P3 (((Uh HEX).trans HK1).onto HF.2 (fun i hi e=>Qz)) (aM HK0 HF.2 Qe) (HSC5.off HF.2 (nq (y:=0) G).1) fun HF5 HD6 HSC6=>?_;go_wp2_with fail;(try rw[hW6]);refine PM HF.1 fun q0 q1=>VC (v:=UT #[Ti Tl 0,Ti Tt 0]) (by simp[Vo,results45,go_sem,q0,q1]) rfl ?_;exact⟨HF5,fun h=>absurd rfl h,fun _=>⟨rfl,⟨U8,0,_,_⟩,HD6,⟨ZO _ _ _ _,UY _,VF _,HSC6,nL.nil⟩⟩⟩
  go_wp2_with fail;refine P2 (j6 k hk W4) fun w2 c=>have h2':=c.symm;?_;subst h2';unfold ga;go_wp2;exact⟨rfl,Uh HEX,fun _=>rfl,fun h=>absurd h hk⟩
end
end
section
def qM(s:dp):Int:=if cY (bk (iR s.store))=U8 then 200 else 0
section
attribute [local irreducible] ak aN
def Js(D:Nat)(a5:Option VW)(d:Nat)(c5:Nat)(b:Option VW)(g:Nat)(f:Nat)(ra:Option VW)(c:Nat)(rc:Nat):List (UV->UN->Prop):=
 [ev (UK (Ts ⟨D,0,U8⟩)),
  ev (UK (Ts ⟨D,0,U8⟩)),
  ev (UK (Ts ⟨D,0,U8⟩)),
  ev (Tm ra c rc),
  ev (UT #[Tm a5 d c5,Tm b g f]),
  ev (UK (Ts ⟨D,0,U8⟩)),
  ev (UK (Ts ⟨D,3,U8⟩)),
  tv,
  ev (UK (Ts ⟨D,0,U8⟩)),
  ev (UK (Ts ⟨D,4,U8⟩)),
  tv,
  ev (UK (Ts ⟨D,0,U8⟩)),
  ev (UK (Ts ⟨D,5,U8⟩)),
  tv]
def Ow(D:Nat)(a5:Option VW)(d:Nat)(c5:Nat)(b:Option VW)(g:Nat)(f:Nat)(ra:Option VW)(c:Nat)(rc:Nat):List (UV->UN->Prop):=
 Js D a5 d c5 b g f ra c rc
def Mv(D:Nat)(V:UN)(c:Int)(sx:Nat)(bad:Bool)(da:Option VW)(n:Nat)(dc:Nat)(d:Option VW)(b:Nat)(g:Nat)(l:Option VW)(f:Nat)(j:Nat)(w:UN):Prop:=w.heap[D]?=Ts (Tq #[Ti Tl c,ag sx,U1 bad,U1 true,Tm da n dc,Tm d b g,Tm l f j] 44 (0,0))/\Fr (fun i=>i=D) V w
def acB(D:Nat)(a5:Option VW)(d:Nat)(c5:Nat)(b:Option VW)(g:Nat)(f:Nat)(ra:Option VW)(c:Nat)(rc:Nat):List (UV->UN->Prop):=
 Ow D a5 d c5 b g f ra c rc
def aaJ(D:Nat)(V:UN)(c:Int)(sx:Nat)(bad:Bool)(d:Option VW)(b:Nat)(j:Nat)(m:Option VW)(f:Nat)(l:Nat)(ra:Option VW)(g:Nat)(rc:Nat)(w:UN):Prop:=w.heap[D]?=Ts (Tq #[Ti Tl c,ag sx,U1 bad,U1 true,Tm ra g rc,Tm d b j,Tm m f l] 44 (0,0))/\Fr (fun i=>i=D) V w
def ajJ(D:Nat)(a5:Option VW)(d:Nat)(c5:Nat)(b:Option VW)(g:Nat)(f:Nat)(ra:Option VW)(c:Nat)(rc:Nat):List (UV->UN->Prop):=
 acB D a5 d c5 b g f ra c rc
def aeA(D:Nat)(V:UN)(b:Int)(sx:Nat)(bad:Bool)(a5:Option VW)(f:Nat)(c5:Nat)(c:Option VW)(j:Nat)(g:Nat)(ra:Option VW)(d:Nat)(rc:Nat)(w:UN):Prop:=w.heap[D]?=Ts (Tq #[Ti Tl b,ag sx,U1 bad,U1 true,Tm ra d rc,Tm a5 f c5,Tm c j g] 44 (0,0))/\Fr (fun i=>i=D) V w
def kM{p:Prop}(h:p:=by
  intro s vs w' hlo hhi hl hK hd;rcases(show s=0\/s=1\/s=2\/s=3 from Ph)with rfl|rfl|rfl|rfl<;>try omega
  all_goals first
  |(
    have HK0:Hid (aq W4 w'):=hK;clear hK;simp only[aK,Ua,PV];(try rw[dq hd 0 Pj rfl]);(try rw[dq hd 5 Pj rfl]);have HL:=Tn hl;clear hd hl;(try(have hr:=ai HPG4 HK0;refine PM hr fun z0 z1=>?_));unfold ak;go_simp
    exact⟨rfl,P0⟩)
  |(
    have hk:=hK;simp only[PW]at hk;unfold Mv at hk;refine P4 hk.1 hk.2 fun HK0 HK1=>?_;clear hk hK;simp only[aK,Ua,PV];(try rw[dq hd 0 Pj rfl]);(try rw[dq hd 1 Pj rfl]);(try rw[dq hd 3 Pj rfl]);(try rw[dq hd 5 Pj rfl]);(try rw[dq hd 6 Pj rfl]);(try rw[dq hd 8 Pj rfl]);have HL:=Tn hl;clear hd hl;(try(have hr:=aM HPG4 HK1 Qe;refine PM hr fun z0 z1=>?_));unfold ak;go_simp
    exact⟨rfl,P0⟩)
  |(
    have hk:=hK;simp only[PW]at hk;unfold aaJ at hk;refine P4 hk.1 hk.2 fun HK0 HK1=>?_;clear hk hK;simp only[aK,Ua,PV];(try rw[dq hd 0 Pj rfl]);(try rw[dq hd 1 Pj rfl]);(try rw[dq hd 2 Pj rfl]);(try rw[dq hd 3 Pj rfl]);(try rw[dq hd 4 Pj rfl]);(try rw[dq hd 5 Pj rfl]);(try rw[dq hd 6 Pj rfl]);(try rw[dq hd 8 Pj rfl]);(try rw[dq hd 9 Pj rfl]);(try rw[dq hd 11 Pj rfl]);have HL:=Tn hl;clear hd hl;(try(have hr:=aM HPG4 HK1 Qe;refine PM hr fun z0 z1=>?_));unfold ak;go_simp
    exact⟨rfl,P0⟩)):p:=h
def Kq(s x w)(hC:dQ w s x)(hsl:s.store.safe.length+s.store.opn.length<=100000000):
  Ot 47 #[] w s x (qM s) (ju s) ⟨0,0⟩:=by
 refine⟨Vv func47 Pg rfl,fun f D hE0 hDD ac=>?_⟩;have Y:Hid (qM s=if cY (bk (iR s.store))=U8 then 200 else 0):=Tn rfl;refine P1 (qM s) fun kb hkb=>?_;rw[hkb]at Y⊢;obtain⟨⟨si,sx⟩,bad,up,done,sto⟩:=s;obtain⟨da,dc,u,v⟩:=x;obtain⟨ua,uc,va,vc,X,hv⟩:=hC.sto.form;dsimp only at X hv hsl;subst X hv;have HSC:=Tn hC.sto;have hfl:(iR sto).safe.length+(iR sto).opn.length<=100000000:=by
  rw[<-dg,uH,VZ,dg];omega
 have HFL:=Tn hfl;unfold ju;unfold oI at ac;dsimp only at ac HSC⊢;refine P1 done.length fun n hn=>P1 sto.safe.length fun un hun=>P1 sto.opn.length fun vn hvn=>have HWF:=Tn (fun W(G:aq w W)=>BG sto _ _ W (HSC.ext G) hsl);?_;rw[hun,hvn]at HSC HWF;rw[hn,hun,hvn]at ac;refine P1 (iR sto) fun st hst=>?_;dsimp only at Y;rw[hst]at HWF HFL Y⊢;refine P4 hE0 ac fun B HROW=>P1 f.heap.size fun E G=>have HSE:=Tn G;P1 (dX f [Tq #[Ti Tl 0,Ti Tt 0] 39]) fun t H=>have T:=H;?_;simp only[dX]at T;refine P4 (bZ H) (ei H G) fun HEA HP0=>P4 (aa B HEA) (ai HROW HEA) fun HE1 J=>PZ J fun c5 c6=>?_;go_enter func47,ntmps47;go_upto_region 1 with fail;try rw[T]
 try rw[G]
 go_wp2_with fail;refine(HWF t HE1).mono ?_;rintro e I⟨u5,v5,rfl,an,hE2⟩;obtain⟨a5,m,R,Q,hu5,hv5⟩:=an.form;subst hu5 hv5;refine P1 st.safe.length fun P hn5=>P1 st.opn.length fun U hm5=>?_;rw[hn5,hm5]at an⊢;refine P4 an hE2 fun HS2 HX2=>P1 I.heap.size fun g S=>P1 (I.alloc (Tq #[Tm a5 P m,Tm R U Q] 42)) fun O ab=>have al:=Tn (show aq t O by rw[<-ab];exact af HX2 _);have Z:Hid (O.heap[g]?=Ts (Tq #[Tm a5 P m,Tm R U Q] 42 (0,0))):=Tn (PP ab S);have HS3:Hid (gn O (Tm a5 P m) (Tm R U Q) st):=Tn (by rw[<-ab];exact HS2.out.ext (af P0 _));have HG2:Hid (t.heap.size<=g):=Tn (by rw[<-S];exact HX2.out.size);P3 (ai J al) (ai HP0 al) (aa HEA al) fun HPD3 HPE3 a1=>have HDG:Hid (g≠D/\E≠D/\g≠E):=Tn (by have h1:=(UE.1 J).1;have c:=(UE.1 HP0).1;have A:=(UE.1 HROW).1;have:=HG2.out;have:=HSE.out;omega);PM Z fun g0 g1=>?_;go_upto_region 2 with fail;try rw[ab]
 try rw[S]
 go_wp2_with fail;refine(zm st _ _ O HS3 HFL).mono ?_;rintro e W4 ht;unfold zI at ht;cases N:cY (bk st)with
 |none=>
  rw[N]at ht;obtain⟨rfl,p⟩:=ht;have hkk:kb=200:=by rw[Y.out,if_pos N]
  subst hkk;have V:=Tn (aa a1 p);go_wp2_with fail;refine P2 (j6 200 Pi W4) fun w2 c=>have h2':=c.symm;?_;subst h2';unfold ga;go_wp2;exact⟨rfl,Uh V,fun _=>rfl,fun h=>absurd h Pi⟩
 |some l=>
  rw[N]at ht;obtain⟨v,rfl,a0,p⟩:=ht;have hkk:kb=0:=by rw[Y.out,if_neg (by rw[N];simp)]
  subst hkk;obtain⟨ra,rc,rfl,hrc,hrm,hdl⟩:=NW rfl a0;refine PG (Xy hrc (Xy hrm hdl)) (aa a1 p) (ai HPD3 p) (ai HPE3 p) (ai Z p) (HS3.ext p) N fun HRC V ad HPE4 HPG4 HS4 HTF=>?_;go_wp2_with fail;have X0:EX (Js D a5 P m R U Q ra l.length rc):=by repeat first|exact Gl|refine EC ?_|refine Gx ?_
  have X1:EX (Ow D a5 P m R U Q ra l.length rc):=X0;have X2:EX (acB D a5 P m R U Q ra l.length rc):=X1;refine(WV (n:=0)).1 ?_;refine bu (r:=U8) 14 [7,10,13] [cT,(false,0,1),(false,0,2),(false,0,1),(false,0,2),cT,cT,(true,0,0),(false,1,1),(false,1,1),(true,1,0),(false,2,2),(false,2,2),(true,2,0)] [Ts 25,Ts 26,Ts 27,Ts 28,Ts 29,Ts 30,Ts 31,U8,Ts 32,Ts 33,U8,Ts 34,Ts 35,U8] Pg Pg Pg [aq W4,Mv D W4 si sx bad da n dc ua un uc va vn vc,aaJ D W4 si sx bad ua un uc va vn vc ra l.length rc,aeA D W4 si sx bad a5 P m R U Q ra l.length rc] (BY yk QZ QZ QZ) [Js D a5 P m R U Q ra l.length rc,Ow D a5 P m R U Q ra l.length rc,acB D a5 P m R U Q ra l.length rc,ajJ D a5 P m R U Q ra l.length rc] (BY X0 X1 X2 (X2)) ?k0 ?steps ?fin
  case k0=>exact ap W4
  case steps=>
   refine⟨kM,kM,kM,kM,kM,kM,kM,?_,kM,kM,?_,kM,kM,?_,trivial⟩
   .intro vs w' hl hK hd;have HK0:Hid (aq W4 w'):=hK;have t9:=hd 0 Pi Pg;have b:=hd 5 Pi Pg;have d:=hd 6 Pi Pg;simp only[PW,Js]at t9 b d;simp only[aK,Ua,PV];(try rw[t9]);(try rw[b]);(try rw[d]);exact P5 t9 b d hl fun Kh_0 Kh_5 a2 HL=>have hr:=ai ad HK0;have j:=Tn (NV hr (U1 true));have e3:=Uc w' D 3 _ _ _ hr;have fz3:=VQ w' D 3 _ _ hr;bg fun Post hP=>have HP:=Tn hP;Uk
   .intro vs w' hl hK hd;have hk:=hK;simp only[PW,Mv]at hk;refine P4 hk.1 hk.2 fun HK0 HK1=>have t9:=hd 0 Pi Pg;have F:=hd 1 Pi Pg;have q:=hd 3 Pi Pg;have b:=hd 5 Pi Pg;have d:=hd 6 Pi Pg;have z:=hd 8 Pi Pg;have C:=hd 9 Pi Pg;?_;simp only[Ua,PV,Ow,Js]at t9 F q b d z C;simp only[aK,Ua,PV];(try rw[t9]);(try rw[F]);(try rw[q]);(try rw[b]);(try rw[d]);(try rw[z]);(try rw[C]);exact P8 t9 F q b d z C hl fun Kh_0 Kh_1 Kh_3 Kh_5 a2 Kh_8 Kh_9 HL=>have hr:=HK0.out;have j:=Tn (Ba hr (Tm ra l.length rc));have e4:=Uc w' D 4 _ _ _ hr;have fz4:=VQ w' D 4 _ _ hr;bg fun Post hP=>have HP:=Tn hP;Ty
   intro vs w' hl hK hd;have hk:=hK;simp only[PW,aaJ]at hk;refine P4 hk.1 hk.2 fun HK0 HK1=>have t9:=hd 0 Pi Pg;have F:=hd 1 Pi Pg;have ao:=hd 2 Pi Pg;have q:=hd 3 Pi Pg;have ah:=hd 4 Pi Pg;have b:=hd 5 Pi Pg;have d:=hd 6 Pi Pg;have z:=hd 8 Pi Pg;have C:=hd 9 Pi Pg;have K:=hd 11 Pi Pg;have M:=hd 12 Pi Pg;?_;simp only[Ua,PV,acB,Ow,Js]at t9 F ao q ah b d z C K M;simp only[aK,Ua,PV];(try rw[t9]);(try rw[F]);(try rw[ao]);(try rw[q]);(try rw[ah]);(try rw[b]);(try rw[d]);(try rw[z]);(try rw[C]);(try rw[K]);(try rw[M]);exact PH t9 F ao q ah b d z C hl fun Kh_0 Kh_1 Kh_2 Kh_3 Kh_4 Kh_5 a2 Kh_8 Kh_9 HL=>have hr:=HK0.out;have j:=Tn (AT hr (Tm a5 P m) (Tm R U Q));PZ hr fun e5 e6=>Pa hr fun fz5 fz6=>bg fun Post hP=>have HP:=Tn hP;Ty
  intro vs w' hl hK hd;have hk:=hK;simp only[Up,VJ,PW,aeA]at hk;refine P4 hk.1 hk.2 fun HK0 HK1=>?_;simp only[aK,Ua,PV];iterate 11 (try generalize vs.getD _ VM=xq)
  have o:=Tn (aM HPE4 HK1 Qe);obtain⟨W5,hW5⟩:∃W5,W5=w':=⟨_,rfl⟩;subst hW5;refine P3 (HS4.off HK1 (ej ad).1) (qg.off HRC.2.2 HK1 (ej ad)) (dt o (Ti Tl 0) (Ti Tt 0)) fun HSC5 HDN5 HF=>PM o fun e0 am=>PO o fun fz0 fz1=>PI W5 E (Ti Tl 0) (Ti Tt 0) fun W6 hW6=>?_;rw[hW6]at HF;refine P5 (((Uh V).trans HK1).onto HF.2 (fun i hi e=>Qz)) (aM HK0 HF.2 Qe) (HSC5.off HF.2 (nq (y:=0) o).1) (qg.off HDN5 HF.2 (nq (y:=0) o)) fun HF5 HD6 HSC6 a3=>?_;go_wp2_with fail;(try rw[hW6]);refine PM HF.1 fun q0 q1=>VC (v:=UT #[Ti Tl 0,Ti Tt 0]) (by simp[Vo,results47,go_sem,q0,q1]) rfl ?_;rw[HTF.out];exact⟨HF5,fun h=>absurd rfl h,fun _=>⟨rfl,⟨ra,rc,_,_⟩,HD6,⟨a3.1,HRC.1,HRC.2.1,HSC6,a3.2⟩⟩⟩
end
end
def JY(s x ses)(b:au)(ba bn bc cw pa pc)(cm:List bq)(ma mc w)(hb:aJ w (Tm ba bn bc) b)(ad:b.length<=1000000)(ab:mC w cw pa pc)(ac:cm.length<=mc)(W:mc<=9223372036854775807)(V:cm.length<=1000000)(hcs:cr 2 eF w ma cm)(hC:dQ w s x)(m:s.share.x<2^64)(U:s.done.length<=1000000):
  VB UB 12 #[pB cw pa pc,eK s x,Ti Tl ses,Tm ba bn bc,Tm ma cm.length mc] w (pU (fk s true (Bb cw s ses b cm)) (s) (jG cw s.share ses b cm) w):=by
 unfold pB eK;refine P1 w.heap.size fun D C=>have G:=Tn C;P1 (dX w [Tq #[Ti Tl cw.t,Ti Tl cw.n,ag cw.key,Tm pa cw.parts.length pc] 33,Tq #[Ti Tl s.share.id,ag s.share.x,U1 s.bad,U1 s.up,Tm x.da s.done.length x.dc,x.u,x.v] 44,Tq #[Ti Tl ses] 3,Tq #[Tm ba bn bc] 37,Tq #[Tm ma cm.length mc] 31,Tq #[Ti Tl 0,Ti Tt 0,U1 false,U1 false,zz,zz,zz] 44,Tq #[Ti Tl 0,Ti Tt 0] 39]) fun f No=>have d:=No;?_;simp only[dX]at d;refine P8 (bZ No) (ei No C) (bW No C 1 rfl) (bW No C 2 rfl) (bW No C 3 rfl) (bW No C 4 rfl) (bW No C 5 rfl) (bW No C 6 rfl) fun p HP0 A HP2 HP3 HP4 HP5 HP6=>?_;clear No;have J:=Tn (pg s x true 41 #[UK (Ts ⟨D+3,0,U8⟩),UK (Ts ⟨D+2,0,U8⟩),UK (Ts ⟨D,0,U8⟩),UK (Ts ⟨D+4,0,U8⟩)] _ _ _ f (hC.ext p) Ph (Fi s x ses b (Tm ba bn bc) cw pa pc cm ma mc (D+2) (D+3) D (D+4) f (hb.ext p) ad HP2 HP3 HP0 HP4 (ab.ext p) ac W V (hcs.ext p) (hC.ext p) m U));unfold eK at J;clear hb ad ab ac W V hcs hC m U;refine P1 (fk s true (Bb cw s ses b cm)) fun K H=>P1 (jG cw s.share ses b cm) fun c2 L=>?_;rw[H,L]at J;rw[H,L];clear H L;refine PX A fun c0 c1 c2 c3 c4 c5 c6=>?_;go_enter func12,ntmps12;go_upto_region 1 with fail;try rw[d]
 try rw[C]
 clear d C;go_wp2_with fail;refine J.out.mono ?_;rintro e T⟨q,M,F⟩;refine P3 (aa p q) (ai HP5 q) (ai HP6 q) fun B HQ Z=>?_;clear c0 c1 c2 c3 c4 c5 c6 q J;by_cases o:K=0
 .obtain⟨x',rfl,S⟩:=F o;refine P4 o S fun HK HC'=>?_;obtain⟨⟨si,sx⟩,bad,up,done,sto⟩:=s;obtain⟨da,dc,u,v⟩:=x';obtain⟨ua,uc,va,vc,X,hv⟩:=S.sto.form;dsimp only at X hv;subst X hv;unfold eK;dsimp only;clear M F o S;(iterate 7 go_simp;go_step);refine WS rfl _ _ _ rfl (D+5) #[Ti Tl si,ag sx,U1 bad,U1 up,Tm da done.length dc,Tm ua sto.safe.length uc,Tm va sto.opn.length vc] rfl rfl 44 _ HQ Pg Q8 Q6 ?_;refine P1 (T.setRow (D+5) #[Ti Tl si,ag sx,U1 bad,U1 up,Tm da done.length dc,Tm ua sto.safe.length uc,Tm va sto.opn.length vc]) fun I Y=>?_;rw[Y];have c:Hid (I.heap[D+5]?=Ts (Tq #[Ti Tl si,ag sx,U1 bad,U1 up,Tm da done.length dc,Tm ua sto.safe.length uc,Tm va sto.opn.length vc] 44 (0,0))):=Tn Se;have j:Hid (Fr (fun k=>k=D+5) T I):=Tn SU;clear Y;refine PX c fun q0 q1 q2 R N Q P=>have E:=Tn (aM Z j Ph);WS rfl _ _ _ rfl (D+6) #[Ti Tl c2.id,ag c2.x] rfl rfl 39 _ E Pg Q8 Q6 ?_;refine P1 (I.setRow (D+6) #[Ti Tl c2.id,ag c2.x]) fun O r=>?_;rw[r];have z:Hid (O.heap[D+6]?=Ts (Tq #[Ti Tl c2.id,ag c2.x] 39 (0,0))):=Tn X3;have l:Hid (Fr (fun k=>k=D+6) I O):=Tn TI;clear r;refine PM z fun r0 r1=>have g:=Tn (aM c l Ph);?_;clear q0 q1 q2 R N Q P;refine PX g fun q0 q1 q2 R N Q P=>?_;go_wp2;exact VC (v:=UW #[UT #[Ti Tl si,ag sx,U1 bad,U1 up,Tm da done.length dc,Tm ua sto.safe.length uc,Tm va sto.opn.length vc],UT #[Ti Tl c2.id,ag c2.x],Ti Tl 0]) Qu rfl ⟨B.trans ((j.below B.size (fun k o=>Vg)).trans (l.below (n:=w.heap.size) (VG B.size j.size) (fun k o=>Vg))),fun h=>absurd HK.out h,fun _=>⟨_,rfl,(HC'.off j (ej (sx:=0) HQ)).off l (nq (y:=0) E)⟩⟩
 have he:=M o;subst he;have HK:=Tn o;clear M F o;(iterate 7 go_simp;go_step);refine WS rfl _ _ _ rfl (D+5) #[Ti Tl 0,Ti Tt 0,U1 false,U1 false,zz,zz,zz] rfl rfl 44 _ HQ Pg Q8 Pu ?_;refine P1 (T.setRow (D+5) #[Ti Tl 0,Ti Tt 0,U1 false,U1 false,zz,zz,zz]) fun I Y=>?_;rw[Y];have c:Hid (I.heap[D+5]?=Ts (Tq #[Ti Tl 0,Ti Tt 0,U1 false,U1 false,zz,zz,zz] 44 (0,0))):=Tn Se;have j:Hid (Fr (fun k=>k=D+5) T I):=Tn SU;clear Y;refine PX c fun q0 q1 q2 R N Q P=>have E:=Tn (aM Z j Ph);WS rfl _ _ _ rfl (D+6) #[Ti Tl 0,Ti Tt 0] rfl rfl 39 _ E Pg Q8 Pu ?_;refine P1 (I.setRow (D+6) #[Ti Tl 0,Ti Tt 0]) fun O r=>?_;rw[r];have z:Hid (O.heap[D+6]?=Ts (Tq #[Ti Tl 0,Ti Tt 0] 39 (0,0))):=Tn X3;have l:Hid (Fr (fun k=>k=D+6) I O):=Tn TI;clear r;refine PM z fun r0 r1=>have g:=Tn (aM c l Ph);?_;clear q0 q1 q2 R N Q P;refine PX g fun q0 q1 q2 R N Q P=>?_;go_wp2;exact VC (v:=UW #[UT #[Ti Tl 0,Ti Tt 0,U1 false,U1 false,zz,zz,zz],UT #[Ti Tl 0,Ti Tt 0],Ti Tl K]) Qu rfl ⟨B.trans ((j.below B.size (fun k o=>Vg)).trans (l.below (n:=w.heap.size) (VG B.size j.size) (fun k o=>Vg))),fun _=>rfl,fun h=>absurd h HK⟩
def yT(k:Int)(c:dp)(w:UN)(e:Xo)(b:UN):Prop:=aq w b/\(k≠0->e=UO (UW #[UT #[Ti Tl 0,Ti Tt 0,U1 false,U1 false,zz,zz,zz],Ti Tl k]))/\(k=0->∃x',e=UO (UW #[eK c x',Ti Tl 0])/\dQ b c x')
def F8(s x keep w)(hC:dQ w s x)(W:s.done.length<=1000000):
  VB UB 13 #[eK s x,Ti Tl keep] w (yT (fk s true (fg s.store (min keep s.store.opn.length))) (gB s keep) w):=by
 unfold eK;refine P1 w.heap.size fun D C=>have T:=Tn C;P1 (dX w [Tq #[Ti Tl s.share.id,ag s.share.x,U1 s.bad,U1 s.up,Tm x.da s.done.length x.dc,x.u,x.v] 44,Tq #[Ti Tl keep] 3,Tq #[Ti Tl 0,Ti Tt 0,U1 false,U1 false,zz,zz,zz] 44]) fun f No=>have d:=No;?_;simp only[dX]at d;refine P5 (bZ No) (ei No C) (bW No C 1 rfl) (bW No C 2 rfl) fun r g HP1 R=>?_;clear No;have z:=Tn (pg s x true 45 #[UK (Ts ⟨D+1,0,U8⟩)] _ _ _ f (hC.ext r) Ph (Gf s x keep (D+1) f HP1 (hC.ext r)));unfold eK at z;clear hC W;refine P1 (fk s true (fg s.store (min keep s.store.opn.length))) fun K H=>P1 (gB s keep) fun s2 E=>?_;rw[H,E]at z;rw[H,E];clear H E;refine PX g fun c0 c1 c2 c3 c4 c5 c6=>?_;go_enter func13,ntmps13;go_upto_region 1 with fail;try rw[d]
 try rw[C]
 clear d C;go_wp2_with fail;refine z.out.mono ?_;rintro e t⟨q,A,p⟩;refine P4 q (aa r q) fun P Q=>?_;clear c0 c1 c2 c3 c4 c5 c6 q z;refine P1 t.heap.size fun G L=>?_;by_cases o:K=0
 .obtain⟨x',rfl,B⟩:=p o;refine P4 o B fun HK HC'=>?_;obtain⟨⟨V,sx⟩,bad,up,done,sto⟩:=s2;obtain⟨da,dc,u,v⟩:=x';obtain⟨M,N,S,U,X,hv⟩:=B.sto.form;dsimp only at X hv;subst X hv;unfold eK;dsimp only;clear A p o B;refine P1 ((t.alloc (Tq #[Ti Tl V,Ti Tt (sx:Int),U1 bad,U1 up,Tm da done.length dc,Tm M sto.safe.length N,Tm S sto.opn.length U] 44)).alloc (Tq #[Ti Tl 0,Ti Tt 0] 39)) fun I Y=>have m:=Tn (show aq t I from Rc);have c:Hid (I.heap[G]?=Ts (Tq #[Ti Tl V,ag sx,U1 bad,U1 up,Tm da done.length dc,Tm M sto.safe.length N,Tm S sto.opn.length U] 44 (0,0))):=Tn QL;P5 (aa Q m) (ai R (aa P m)) Y L fun F b J HG=>?_;clear Y L;go_upto_region 2 with fail;try rw[J.out]
  try rw[HG.out]
  refine PX c fun g0 g1 g2 g3 g4 g5 g6=>PX b fun e0 am e2 e3 e4 e5 e6=>PY b fun fz0 fz1 Z fz3 fz4 fz5 fz6=>have j:=Tn (cu b (Ti Tl V) (ag sx) (U1 bad) (U1 up) (Tm da done.length dc) (Tm M sto.safe.length N) (Tm S sto.opn.length U));Pc I (D+2) (Ti Tl V) (ag sx) (U1 bad) (U1 up) (Tm da done.length dc) (Tm M sto.safe.length N) (Tm S sto.opn.length U) fun O y=>?_;rw[y]at j;have l:=Tn j.out.2;refine PX j.1 fun q0 q1 q2 q3 q4 q5 q6=>have HC2:=Tn ((HC'.ext m).off l (ej (sx:=0) b));?_;go_wp2_with fail;try rw[y]
  exact VC (v:=UW #[UT #[Ti Tl V,ag sx,U1 bad,U1 up,Tm da done.length dc,Tm M sto.safe.length N,Tm S sto.opn.length U],Ti Tl 0]) Rr rfl ⟨F.trans (l.below F.size (fun k o=>Vz)),fun h=>absurd HK.out h,fun _=>⟨_,rfl,HC2⟩⟩
 have he:=A o;subst he;have HK:=Tn o;clear A p o;refine P1 ((t.alloc (Tq #[Ti Tl 0,Ti Tt 0,U1 false,U1 false,zz,zz,zz] 44)).alloc (Tq #[Ti Tl 0,Ti Tt 0] 39)) fun I Y=>have m:=Tn (show aq t I from Rc);have c:Hid (I.heap[G]?=Ts (Tq #[Ti Tl 0,Ti Tt 0,U1 false,U1 false,zz,zz,zz] 44 (0,0))):=Tn QL;P5 (aa Q m) (ai R (aa P m)) Y L fun F b J HG=>?_;clear Y L;go_upto_region 2 with fail;try rw[J.out]
 try rw[HG.out]
 refine PX c fun g0 g1 g2 g3 g4 g5 g6=>PX b fun e0 am e2 e3 e4 e5 e6=>PY b fun fz0 fz1 Z fz3 fz4 fz5 fz6=>have j:=Tn (cu b (Ti Tl 0) (Ti Tt 0) (U1 false) (U1 false) (zz) (zz) (zz));Pc I (D+2) (Ti Tl 0) (Ti Tt 0) (U1 false) (U1 false) (zz) (zz) (zz) fun O y=>?_;rw[y]at j;have l:=Tn j.out.2;refine PX j.1 fun q0 q1 q2 q3 q4 q5 q6=>?_;go_wp2_with fail;try rw[y]
 exact VC (v:=UW #[UT #[Ti Tl 0,Ti Tt 0,U1 false,U1 false,zz,zz,zz],Ti Tl K]) Rr rfl ⟨F.trans (l.below F.size (fun k o=>Vz)),fun _=>rfl,fun h=>absurd h HK⟩
def KV(s x w)(hC:dQ w s x)(Z:s.done.length<=1000000)(T:s.store.safe.length+s.store.opn.length<=100000000):
  VB UB 14 #[eK s x] w (yT (fk s false (qM s)) (ju s) w):=by
 unfold eK;refine P1 w.heap.size fun D C=>have U:=Tn C;P1 (dX w [Tq #[Ti Tl s.share.id,ag s.share.x,U1 s.bad,U1 s.up,Tm x.da s.done.length x.dc,x.u,x.v] 44,Tq #[Ti Tl 0,Ti Tt 0,U1 false,U1 false,zz,zz,zz] 44]) fun f No=>have d:=No;?_;simp only[dX]at d;refine P3 (bZ No) (ei No C) (bW No C 1 rfl) fun r g R=>?_;clear No;have z:=Tn (pg s x false 47 #[] _ _ _ f (hC.ext r) Ph (Kq s x f (hC.ext r) T));unfold eK at z;clear hC Z T;refine P1 (fk s false (qM s)) fun K H=>P1 (ju s) fun s2 E=>?_;rw[H,E]at z;rw[H,E];clear H E;refine PX g fun c0 c1 c2 c3 c4 c5 c6=>?_;go_enter func14,ntmps14;go_upto_region 1 with fail;try rw[d]
 try rw[C]
 clear d C;go_wp2_with fail;refine z.out.mono ?_;rintro e t⟨q,A,p⟩;refine P4 q (aa r q) fun P Q=>?_;clear c0 c1 c2 c3 c4 c5 c6 q z;refine P1 t.heap.size fun G L=>?_;by_cases o:K=0
 .obtain⟨x',rfl,B⟩:=p o;refine P4 o B fun HK HC'=>?_;obtain⟨⟨W,sx⟩,bad,up,done,sto⟩:=s2;obtain⟨da,dc,u,v⟩:=x';obtain⟨M,N,S,V,X,hv⟩:=B.sto.form;dsimp only at X hv;subst X hv;unfold eK;dsimp only;clear A p o B;refine P1 ((t.alloc (Tq #[Ti Tl W,Ti Tt (sx:Int),U1 bad,U1 up,Tm da done.length dc,Tm M sto.safe.length N,Tm S sto.opn.length V] 44)).alloc (Tq #[Ti Tl 0,Ti Tt 0] 39)) fun I Y=>have m:=Tn (show aq t I from Rc);have c:Hid (I.heap[G]?=Ts (Tq #[Ti Tl W,ag sx,U1 bad,U1 up,Tm da done.length dc,Tm M sto.safe.length N,Tm S sto.opn.length V] 44 (0,0))):=Tn QL;P5 (aa Q m) (ai R (aa P m)) Y L fun F b J HG=>?_;clear Y L;go_upto_region 2 with fail;try rw[J.out]
  try rw[HG.out]
  refine PX c fun g0 g1 g2 g3 g4 g5 g6=>PX b fun e0 am e2 e3 e4 e5 e6=>PY b fun fz0 fz1 ab fz3 fz4 fz5 fz6=>have j:=Tn (cu b (Ti Tl W) (ag sx) (U1 bad) (U1 up) (Tm da done.length dc) (Tm M sto.safe.length N) (Tm S sto.opn.length V));Pc I (D+1) (Ti Tl W) (ag sx) (U1 bad) (U1 up) (Tm da done.length dc) (Tm M sto.safe.length N) (Tm S sto.opn.length V) fun O y=>?_;rw[y]at j;have l:=Tn j.out.2;refine PX j.1 fun q0 q1 q2 q3 q4 q5 q6=>have HC2:=Tn ((HC'.ext m).off l (ej (sx:=0) b));?_;go_wp2_with fail;try rw[y]
  exact VC (v:=UW #[UT #[Ti Tl W,ag sx,U1 bad,U1 up,Tm da done.length dc,Tm M sto.safe.length N,Tm S sto.opn.length V],Ti Tl 0]) Rt rfl ⟨F.trans (l.below F.size (fun k o=>S5)),fun h=>absurd HK.out h,fun _=>⟨_,rfl,HC2⟩⟩
 have he:=A o;subst he;have HK:=Tn o;clear A p o;refine P1 ((t.alloc (Tq #[Ti Tl 0,Ti Tt 0,U1 false,U1 false,zz,zz,zz] 44)).alloc (Tq #[Ti Tl 0,Ti Tt 0] 39)) fun I Y=>have m:=Tn (show aq t I from Rc);have c:Hid (I.heap[G]?=Ts (Tq #[Ti Tl 0,Ti Tt 0,U1 false,U1 false,zz,zz,zz] 44 (0,0))):=Tn QL;P5 (aa Q m) (ai R (aa P m)) Y L fun F b J HG=>?_;clear Y L;go_upto_region 2 with fail;try rw[J.out]
 try rw[HG.out]
 refine PX c fun g0 g1 g2 g3 g4 g5 g6=>PX b fun e0 am e2 e3 e4 e5 e6=>PY b fun fz0 fz1 ab fz3 fz4 fz5 fz6=>have j:=Tn (cu b (Ti Tl 0) (Ti Tt 0) (U1 false) (U1 false) (zz) (zz) (zz));Pc I (D+1) (Ti Tl 0) (Ti Tt 0) (U1 false) (U1 false) (zz) (zz) (zz) fun O y=>?_;rw[y]at j;have l:=Tn j.out.2;refine PX j.1 fun q0 q1 q2 q3 q4 q5 q6=>?_;go_wp2_with fail;try rw[y]
 exact VC (v:=UW #[UT #[Ti Tl 0,Ti Tt 0,U1 false,U1 false,zz,zz,zz],Ti Tl K]) Rt rfl ⟨F.trans (l.below F.size (fun k o=>S5)),fun _=>rfl,fun h=>absurd h HK⟩
def ab1{B:Nat}{f m j l g d:UV}(u:w.heap[B]?=Ts (Tq #[x0,f,m,j,l,g,d] t (0,0)))(c:UV):
  (w.setCell ⟨B,2,U8⟩ c).heap[B]?=Ts (Tq #[x0,f,c,j,l,g,d] t (0,0))/\Fr (fun i=>i=B) w (w.setCell ⟨B,2,U8⟩ c):=⟨(VE _ B 2 _ _ _ u).trans Pm,Uz (S:=fun b=>b=B) _ ⟨B,2,U8⟩ _ rfl⟩
def Ay(s x w)(P:dQ w s x)(Q:s.done.length<=1000000):
  VB UB 16 #[eK s x] w (yT (bJ s) {s with bad:=true} w):=by
 refine P4 (fun W(g:aq w W)=>eo s x W (P.ext g) Ph) P fun M R=>P1 (bJ s) fun k o=>?_;rw[o]at M⊢;obtain⟨⟨N,sx⟩,bad,up,done,sto⟩:=s;obtain⟨da,dc,u,v⟩:=x;obtain⟨I,J,K,L,X,hv⟩:=P.sto.form;dsimp only at X hv;subst X hv;unfold eK at M⊢;dsimp only at M⊢;refine P1 w.heap.size fun D C=>have H:=Tn C;P1 (dX w [Tq #[Ti Tl N,ag sx,U1 bad,U1 up,Tm da done.length dc,Tm I sto.safe.length J,Tm K sto.opn.length L] 44,Tq #[Ti Tl 0,Ti Tt 0,U1 false,U1 false,zz,zz,zz] 44]) fun f No=>have d:=No;?_;simp only[dX]at d;refine P3 (bZ No) (ei No C) (bW No C 1 rfl) fun B p V=>PX p fun c0 c1 c2 c3 c4 c5 c6=>?_;go_enter func16,ntmps16;go_upto_region 1 with fail;try rw[d]
 try rw[C]
 go_wp2_with fail;refine P2 (M f B) fun t q=>P3 (aa B q) (ai p q) (ai V q) fun r A b=>?_;by_cases o:k=0
 .subst o;have c2:=Uc t D 2 _ _ _ A;have E:=VQ t D 2 _ _ A;have y:=Tn (ab1 A (U1 true));refine P1 (t.setCell ⟨D,2,U8⟩ (U1 true)) fun l G=>?_;rw[G]at y;have HV1:=Tn G;go_upto_region 5 with fail;try rw[HV1.out]
  have c:=Tn (aM b y.2 Ph);refine PX y.1 fun g0 g1 g2 g3 g4 g5 g6=>PX c fun e0 am e2 e3 e4 e5 e6=>PY c fun fz0 Z E S Y fz5 fz6=>have j:=Tn (cu c (Ti Tl N) (ag sx) (U1 true) (U1 up) (Tm da done.length dc) (Tm I sto.safe.length J) (Tm K sto.opn.length L));Pc l (D+1) (Ti Tl N) (ag sx) (U1 true) (U1 up) (Tm da done.length dc) (Tm I sto.safe.length J) (Tm K sto.opn.length L) fun m z=>?_;rw[z]at j;refine PX j.1 fun q0 q1 q2 q3 T q5 U=>?_
  have O:Hid (dQ m ⟨⟨N,sx⟩,true,up,done,sto⟩ ⟨da,dc,Tm I sto.safe.length J,Tm K sto.opn.length L⟩):=Tn (by
   have h:=((R.ext r).off y.2 (ej A)).off j.2 (ej (sx:=0) c)
   exact⟨h.done,h.dl,h.dm,h.sto,h.typ⟩)
  have F:=Tn (r.trans ((y.2.below r.size (fun i hi=>by have:=H.out;have e':i=D:=hi;omega)).trans (j.2.below (n:=w.heap.size) (VG r.size y.2.size) (fun i hi=>Za))));go_wp2_with fail;try rw[z]
  exact VC (v:=UW #[UT #[Ti Tl N,ag sx,U1 true,U1 up,Tm da done.length dc,Tm I sto.safe.length J,Tm K sto.opn.length L],Ti Tl 0]) Rg rfl ⟨F,fun h=>absurd rfl h,fun _=>⟨_,rfl,O⟩⟩
 refine PX b fun e0 am e2 e3 e4 e5 e6=>PY b fun fz0 Z E S Y fz5 fz6=>have j:=Tn (cu b (Ti Tl 0) (Ti Tt 0) (U1 false) (U1 false) (zz) (zz) (zz));Pc t (D+1) (Ti Tl 0) (Ti Tt 0) (U1 false) (U1 false) (zz) (zz) (zz) fun m z=>?_;rw[z]at j;refine PX j.1 fun q0 q1 q2 q3 T q5 U=>have F:=Tn (r.trans (j.2.below r.size (fun i hi=>Za)));?_;go_wp2_with fail;try rw[z]
 exact VC (v:=UW #[UT #[Ti Tl 0,Ti Tt 0,U1 false,U1 false,zz,zz,zz],Ti Tl k]) Rg rfl ⟨F,fun _=>rfl,fun h=>absurd h o⟩
def Md(w:UN)(B:Nat):Prop:=∀(j:Nat)(u:UV),w.cell? ⟨B,j,U8⟩=Ts u->∃a n c,u=Tm a n c
def ad9{B c1 c2 a2}(b:w.heap[B]?=Ts (Tq #[Tm a1 n1 c1,Tm a2 n2 c2] T (0,0))):Md w B:=fun j u X=>by
 unfold Wc at X;rw[b]at X;rcases j with _|_|j<;>simp at X<;>exact⟨_,_,_,X.symm⟩
def aaC{B}(h:js w a l)(P:Fr (fun i=>i=B) w c)(d:Md w B):js c a l:=fun i x m=>by
 obtain⟨b,o,f,L,h1⟩:=h i x m;have hb:b≠B:=Vj;exact⟨b,o,f,(P.cell (p:=⟨b,_,U8⟩) (aR L) hb).trans L,h1⟩
def Ol{B l}(h:rx w a l)(P:Fr (fun i=>i=B) w c)(d:Md w B):rx c a l:=fun i x m=>by
 obtain⟨b,o,f,L⟩:=h i x m;have hb:b≠B:=Vj;exact⟨b,o,f,(P.cell (p:=⟨b,_,U8⟩) (aR L) hb).trans L⟩
def MU{g B l}(h:qz w a l)(P:Fr (fun i=>i=B) w g)(f:Md w B):qz g a l:=fun i x m=>by
 obtain⟨b,o,t,L,h1,⟨a2,c2,c,l1,l2,d⟩,A,r,j,q,u,s⟩:=h i x m;have hb:b≠B:=by rintro rfl;obtain⟨_,_,_,e⟩:=f _ _ L;cases e
 exact⟨b,o,t,(P.cell (p:=⟨b,_,U8⟩) (aR L) hb).trans L,(P.cell (p:=⟨b,_,U8⟩) (aR h1) hb).trans h1,⟨a2,c2,(P.cell (p:=⟨b,_,U8⟩) (aR c) hb).trans c,l1,l2,aaC d P f⟩,(P.cell (p:=⟨b,_,U8⟩) (aR A) hb).trans A,(P.cell (p:=⟨b,_,U8⟩) (aR r) hb).trans r,(P.cell (p:=⟨b,_,U8⟩) (aR j) hb).trans j,(P.cell (p:=⟨b,_,U8⟩) (aR q) hb).trans q,u,s⟩
def L6{f B l}(h:ut w a l)(P:Fr (fun i=>i=B) w f)(d:Md w B):ut f a l:=fun i x m=>by
 obtain⟨b,o,g,L,h1,c,⟨a2,c2,A,l1,l2,q⟩,j⟩:=h i x m;have hb:b≠B:=Vj;exact⟨b,o,g,(P.cell (p:=⟨b,_,U8⟩) (aR L) hb).trans L,(P.cell (p:=⟨b,_,U8⟩) (aR h1) hb).trans h1,(P.cell (p:=⟨b,_,U8⟩) (aR c) hb).trans c,⟨a2,c2,(P.cell (p:=⟨b,_,U8⟩) (aR A) hb).trans A,l1,l2,Ol q P d⟩,j⟩
structure xG(w:UN)(ra:Option VW)(rn rc:Nat)(na:Option VW)(nn nc:Nat)(l:List b7)(ns:List Dv):Prop where
 l1:l.length=rn
 l2:rn<=rc
 l3:rc<=VL
 ru:qz w ra l
 n1:ns.length=nn
 n2:nn<=nc
 n3:nc<=VL
 no:ut w na ns
def xG.ext{d c l ns}(h:xG w ra d rc na c nc l ns)(g:aq w b):xG b ra d rc na c nc l ns:=⟨h.l1,h.l2,h.l3,h.ru.ext g,h.n1,h.n2,h.n3,h.no.ext g⟩
def KH:bL [jM]=0:=Pj
def Le{l:List b7}(m:bL l=0)(hn:l.length=n)(d:n<=cap)(c:cap<=VL)(p:qz w a l)(f:n<=40)(b:∀r∈l,r.pats.length<=1000)(g:xB w):
  VB UB 19 #[Tm a n cap] w (EJ l (ef l) 0 w):=by
 have:=tm l a cap n w hn d c p Ph b g;unfold t7 lu at this;rwa[if_pos m,if_pos m,m]at this
def IG:∀r∈[jM],r.pats.length<=1000:=Pi
def ub(w)(hw:xB w):VB UB 5 #[] w (fun e b=>∃ra rn rc na y nc,e=UO (UW #[UT #[Tm ra rn rc,Tm na y nc],U1 true])/\xG b ra rn rc na y nc [jM] (ef [jM])/\aq w b):=by
 refine P4 hw (Below.refl w.heap.size w) fun HW HEw=>P1 w.heap.size fun D C=>P1 (w.alloc (Tq #[zz,zz] 27)) fun f d=>have S:=Tn (show aq w f from Pq);have an:=Tn (aa HEw S);have HRD:Hid (f.heap[D]?=Ts (Tq #[zz,zz] 27 (0,0))):=Tn (PP d C);P4 C d fun HD Z=>?_;clear C d;refine P1 f.heap.size fun F G=>P1 (f.alloc (Tq #[UH ⟨#[42,46,98]⟩] 9)) fun t T=>have z:=Tn (show aq f t from QA);have R:=Tn (aa an z);have a1:Hid (t.heap[F]?=Ts (Tq #[UH ⟨#[42,46,98]⟩] 9 (0,0))):=Tn (PP T G);P4 G T fun N X=>?_;clear G T;refine P1 t.heap.size fun q P=>P1 (t.alloc (Tq #[UH ⟨#[119,101,98]⟩,U1 true,Tm (Ts ⟨F,0,U8⟩) 1 1,Ti Tt 0,Ti Tl 50,Ti Tl 0,Ti Tl 0] 75)) fun I Y=>have o:=Tn (show aq t I from QQ);have B:=Tn (aa R o);have c:Hid (I.heap[q]?=Ts (Tq #[UH ⟨#[119,101,98]⟩,U1 true,Tm (Ts ⟨F,0,U8⟩) 1 1,Ti Tt 0,Ti Tl 50,Ti Tl 0,Ti Tl 0] 75 (0,0))):=Tn (PP Y P);P4 P Y fun HG2 HW2=>?_;clear P Y;refine P4 (ai HRD (aa z o)) (ai a1 o) fun HP0 HP1=>?_
 have j:Hid (js I (Ts ⟨F,0,U8⟩) jM.pats):=Tn (fun i x m=>by
  match i,m with
  |0,m=>cases m;exact⟨_,_,rfl,Uc I F 0 _ _ _ HP1,Pi⟩)
 have a4:Hid (qz I (Ts ⟨q,0,U8⟩) [jM]):=Tn (fun i x m=>by
  match i,m with
  |0,m=>
   cases m
   exact⟨_,_,rfl,Uc I q 0 _ _ _ c,Uc I q 1 _ _ _ c,⟨_,_,Uc I q 2 _ _ _ c,Pi,Pi,j⟩,Uc I q 3 _ _ _ c,Uc I q 4 _ _ _ c,Uc I q 5 _ _ _ c,Uc I q 6 _ _ _ c,Pi,Pi⟩)
 refine P1 (ef [jM]) fun tr al=>have s:=Le (a:=Ts ⟨q,0,U8⟩) (cap:=1) (n:=1) (w:=I) KH rfl (UY _) Pi a4 Pi IG (HW.ext B);?_;rw[al]at s⊢;refine P1 ([jM]) fun wr L=>have W:Hid (wr.length=1):=Tn (by rw[<-L];rfl);?_;rw[L]at s⊢;clear al L;have HCO:=Tn s;go_enter func5,ntmps5;go_upto_region 1 with fail;try rw[HD.out]
 try rw[Z.out]
 go_wp2_with fail;have a2:D+1=F:=by rw[<-N.out,<-Z.out,Ud,HD.out]
 have ao:F+1=q:=by rw[<-HG2.out,<-X.out,Ud,N.out]
 try rw[a2]
 rw[N.out];try rw[X.out]
 rw[ao];rw[HW2.out];clear a2 ao;refine HCO.out.mono ?_;rintro e O⟨rv,nv,rfl,⟨ra,rc,rfl,M,U,a5⟩,⟨na,nc,rfl,ac,ad,ab⟩,H⟩;rw[W.out]at M⊢;have a3:Hid (xG O ra 1 rc na tr.length nc wr tr):=Tn ⟨W,M,U,a5,rfl,ac,ad,ab⟩;refine P4 (aa B H) (ai HP0 H) fun Q HD3=>P1 tr.length fun y a0=>?_;rw[a0]at a3⊢;clear a0;refine P1 O.heap.size fun GT K=>P1 (O.alloc (Tq #[Tm ra 1 rc,Tm na y nc] 27)) fun u r=>have p:=Tn (show aq O u by rw[<-r];exact af P0 _);have A:=Tn (aa Q p);have E:Hid (u.heap[GT]?=Ts (Tq #[Tm ra 1 rc,Tm na y nc] 27 (0,0))):=Tn (PP r K);P4 K r fun HGT HW4=>?_;clear K r;refine P4 (ai HD3 p) (a3.ext p) fun l g=>PM E fun c0 c1=>PM l fun e0 am=>PO l fun fz0 fz1=>have j:=Tn (dt l (Tm ra 1 rc) (Tm na y nc));PI u D (Tm ra 1 rc) (Tm na y nc) fun W5 J=>?_;rw[J]at j;have HT5:Hid (xG W5 ra 1 rc na y nc wr tr):=Tn ⟨g.l1,g.l2,g.l3,MU g.ru j.2 (ad9 l),g.n1,g.n2,g.n3,L6 g.no j.2 (ad9 l)⟩;refine P4 (A.trans (j.2.below A.size (fun i hi=>by have:=HD.out;have e':i=D:=hi;omega))) J fun HE5 ah=>?_;clear J;go_upto_region 2 with fail;try rw[HGT.out]
 try rw[HW4.out]
 go_wp2_with fail;try rw[ah.out]
 exact PM j.1 fun q0 q1=>VC (v:=UW #[UT #[Tm ra 1 rc,Tm na y nc],U1 true]) (by simp[Vo,results5,go_sem,q0,q1]) rfl ⟨_,_,_,_,_,_,rfl,HT5,HE5⟩
def aeF:pD Ky:=fun w b o k=>w.cell? ⟨b,o,U8⟩=Ts (Ti Tl k.log)/\w.cell? ⟨b,o+1,U8⟩=Ts (ag k.key)/\w.cell? ⟨b,o+2,U8⟩=Ts (Ti Tl k.delay)
instance:mj aeF:=⟨fun h hE=>⟨ae h.1 hE,ae h.2.1 hE,ae h.2.2 hE⟩⟩
def aiI(k:Ky):UV:=UT #[Ti Tl k.log,ag k.key,Ti Tl k.delay]
def KQ(F d)(p:Ky->Bool)(l a n cap w)(cf:kI F d w l aiI p)(y:l.length=n)(hn:n<=1000000000)(B:n<=cap)(h:cr 3 aeF w a l):
  VB UB 59 #[Tm a n cap,.func (.func F) #[] d] w (bM (Ti Tl (kR p l)) w):=by
 refine P3 y h cf fun u H G=>have I:=cf.enters;?_;go_enter func59,ntmps59;go_wp2;go_loopw [8] (fun j wr=>∃k:Nat,k<=n/\j=Ti Tl k/\(l.take k).all (fun x=> !p x)=true/\aq w wr) (fun j _=>n-(VS j).toNat)
 case atStart=>exact⟨0,VF _,rfl,rfl,P0⟩
 exact Sr
def zO(F d)(p:gW->Bool)(l a n cap w)(cf:kI F d w l qh p)(y:l.length=n)(hn:n<=1000000000)(B:n<=cap)(h:cr 6 Nd w a l):
  VB UB 123 #[Tm a n cap,.func (.func F) #[] d] w (bM (Ti Tl (kR p l)) w):=by
 refine P3 y h cf fun u H K=>have L:=cf.enters;?_;go_enter func123,ntmps123;go_wp2;go_loopw [8] (fun j wr=>∃k:Nat,k<=n/\j=Ti Tl k/\(l.take k).all (fun x=> !p x)=true/\aq w wr) (fun j _=>n-(VS j).toNat)
 case atStart=>exact⟨0,VF _,rfl,rfl,P0⟩
 obtain⟨k,o,rfl,f,g⟩:=hrel;refine P4 g f fun ys c=>?_;by_cases R:k<n
 .obtain⟨x,m⟩:=ay u R;have z:=Tn (K.does x (Uv m));obtain⟨b,off,rfl,E,J,A,C,G,I⟩:=(H.ext ys) k x m;have t:=Tn m;go_wp2_with fail;refine P2 (z _ (ys)) fun M D=>have q:=Tn (aa ys D);?_;cases r:p x with
  |true=>
   exact TQ
  |false=>
   have s:=Tn (show(l.take (k+1)).all (fun x=> !p x)=true from RA);go_wp2;go_roundw
   case rel=>exact⟨k+1,Ph,Pt,s,q⟩
   case measure=>simp[VS];omega
 exact TN
def Jr{o:VW}{l:List gW}(h:Kl w (Ts o) l):∀j u,(l.flatMap kO)[j]?=Ts u->w.cell? (o.add j)=Ts u:=fun j u X=>by
 have d:(l.flatMap kO).length=l.length*6:=dN (m:=6) (f:=kO) (fun _=>rfl) l;have Q:=(UU.1 X).1;rw[d]at Q;have hi:j/6<l.length:=Ph;obtain⟨x,p⟩:=ay rfl hi;obtain⟨b,off,q,L,h1,c,A,s,r⟩:=h (j/6) x p;cases q;have cf:=fC (m:=6) (f:=kO) (fun _=>rfl) (j%6) p (Wf _ Pi);rw[show j/6*6+j%6=j from Ph]at cf;have g:(kO x)[j%6]?=Ts u:=by rw[<-cf];exact X
 rw[show((⟨b,off,U8⟩:VW).add j)=⟨b,off+j,U8⟩from Px];have K:j%6=0\/j%6=1\/j%6=2\/j%6=3\/j%6=4\/j%6=5:=Ph;rcases K with K|K|K|K|K|K<;>rw[K]at g<;>cases g
 .rw[show off+j=off+j/6*6 from Ph];exact L
 .rw[show off+j=off+j/6*6+1 from Ph];exact h1
 .rw[show off+j=off+j/6*6+2 from Ph];exact c
 .rw[show off+j=off+j/6*6+3 from Ph];exact A
 .rw[show off+j=off+j/6*6+4 from Ph];exact s
 rw[show off+j=off+j/6*6+5 from Ph];exact r
def ES(w:UN)(s:TypeId)(g o n c l)(u:w.heap[g]?=Ts (Tq l 101 (0,0)))(q:o+n*6<=l.size)(hn:0<n):
  (Builtin.clear_ #[93] s #[Tm (Ts ⟨g,o,U8⟩) n c]).run UB w= .ok (UW #[]) (w.setCells g o (WP (UT #[Ti Tl 0,Ti Tl 0,Ti Tt 0,Ti Tt 0,Ti Tt 0,Ti Tt 0]).cells n).toList):=by
 obtain⟨i0,hi,p,t,x⟩:=WN Ax;have b:(WP (UT #[Ti Tl 0,Ti Tl 0,Ti Tt 0,Ti Tt 0,Ti Tt 0,Ti Tt 0]).cells n).toList.length=n*6:=by
  rw[Array.length_toList,size_zeroCells];rfl
 have f:∀v∈(WP (UT #[Ti Tl 0,Ti Tl 0,Ti Tt 0,Ti Tt 0,Ti Tt 0,Ti Tt 0]).cells n).toList,v.oneCell'=true:=fun v r=>by
  obtain⟨k,z,rfl⟩:=List.mem_iff_getElem.1 r;simp only[Array.getElem_toList,WP,Array.getElem_map,Array.getElem_range];show((#[Ti Tl 0,Ti Tl 0,Ti Tt 0,Ti Tt 0,Ti Tt 0,Ti Tt 0]:Array UV)[k%6]!).oneCell'=true
  have y:k%6=0\/k%6=1\/k%6=2\/k%6=3\/k%6=4\/k%6=5:=Ph;rcases y with h|h|h|h|h|h<;>rw[h]<;>rfl
 have d:=run_storeCells_cells (P:=UB) g o (WP (UT #[Ti Tl 0,Ti Tl 0,Ti Tt 0,Ti Tt 0,Ti Tt 0,Ti Tt 0]).cells n).toList 0 w (fun j Q=>by
  rw[b]at Q;rw[Uc w g _ _ _ _ u,Vy Ph]
  rfl) (fun j _=>VQ w g _ _ _ u) f
 rw[YF]at d;obtain⟨m,rfl⟩:∃m,n=m+1:=⟨n-1,Ph⟩;simp[Builtin.clear_,Yl underlying93,zeroValue,typeInfo,hi,p,d]
def Du(l:List gW)(a n c w)(p:l.length=n)(hn:n<=1000000000)(I:n<=c)(h:Kl w a l):
  VB UB 63 #[Tm a n c] w (fun e F=>∃v,e=UO v/\F.ownsRow w.heap.size 101 6 v n (l.flatMap kO)/\aq w F):=by
 refine P4 p h fun y H=>?_;obtain⟨i0,hi,q,g,o⟩:=WN Ax;refine P5 hi q g o fun G C A D=>?_;cases a with
 |none=>
  have L:n=0:=by
   rcases Ye n with L|L
   .exact L
   obtain⟨x,J⟩:=ay y L;obtain⟨b,off,K,_⟩:=H.out 0 x J;cases K
  subst L;have N:=fun w=>Lib.run_eql_slice_nil (P:=UB) w 93 101 U8 0 c 0 0 underlying93;go_enter func63,ntmps63;go_wp2_with fail;all_goals
   go_ret
   refine⟨_,rfl,?_,P0⟩
   rw[VA y.out]
   exact WO _ _ _ _
 |some B=>
  have N:=fun w=>Lib.run_eql_slice_nil (P:=UB) w 93 101 (Ts B) n c 0 0 underlying93;go_enter func63,ntmps63;refine P1 (w.alloc (Tq #[] 101)) fun t T=>have s:=Tn (show aq w t from QA);have E:Hid (t.heap.size=w.heap.size+1):=Tn (by rw[<-T];exact Ud _ _);?_;have d:(l.flatMap kO).length=n*6:=by rw[dN (m:=6) (f:=kO) (fun _=>rfl),y.out]
  rcases Ye n with L|L
  .subst L;have u:∀r,(YU #[93,93] r #[Tm (Ts ⟨w.heap.size,0,U8⟩) 0 0,Tm (Ts B) 0 c]).run UB t= .ok (Tm (Ts ⟨w.heap.size,0,U8⟩) 0 0) t:=fun r=>by
    simp[YU,Yl underlying93,sizeOf,typeInfo,G.out,Builtin.lenOf,Builtin.firstCells,loadCells,loadCellsFrom,storeCells]
   go_upto_region 3 with fail;(try rw[T]);go_wp2_with (at_builtin;refine Lib.wpList_append_run _ rfl _ _ _ _ rfl _ _ rfl rfl _ _ (u _) ?_)
   go_ret;refine⟨_,rfl,?_,s⟩;rw[VA y.out];refine⟨rfl,.inr ⟨w.heap.size,0,#[],rfl,UY _,?_,UY _,VF _,rfl,rfl⟩⟩;rw[<-T];exact UZ _ _
  have u:=fun r=>run_append_grow (P:=UB) t 93 r 101 i0 _ underlying93 G C ⟨w.heap.size,0,U8⟩ 0 0 [] Pm (fun j v h=>Rw) B n c (l.flatMap kO) (by rw[A.out,d]) (Jr (H.ext s)) Ph Ph (by rw[D.out];have:=nextslicecap_le (need:=0+n) (old:=0) Ph;omega);go_upto_region 3 with fail;(try rw[T]);go_wp2_with (at_builtin;refine Lib.wpList_append_run _ rfl _ _ _ _ rfl _ _ rfl rfl _ _ (u _) ?_)
  go_ret;refine⟨_,rfl,?_,aa s (af (ap _) _)⟩;have M:=grownCap_ge t n 0 101;have z:Yt t n 0 101<=VL:=Yh t n 0 101 Pr;refine⟨d,.inr ⟨t.heap.size,Yt t n 0 101,_,rfl,Rn,heap_alloc_new t.drew _,Ph,z,?_,?_⟩⟩
  .simp only[Array.size_append,WG,size_zeroCells,d,Up,VJ];omega
  simp only[Array.toList_append];rw[<-d];exact List.take_left
def La(k)(pl:Int)(pb:Nat)(w:UN)(h:w.cell? ⟨pb,0,U8⟩=Ts (Ti Tl pl)):
  VB UB 60 #[aiI k,UK (Ts ⟨pb,0,U8⟩)] w (bM (U1 (k.log==pl)) w):=by
 have H:=Tn h;unfold aiI;refine P1 w.heap.size fun E g=>P1 (dX w [Tq #[Ti Tl k.log,ag k.key,Ti Tl k.delay] 90]) fun f No=>have d:=No;?_;simp only[dX]at d;refine P4 (bZ No) (ei No g) fun b c=>have p0:=ae H b;PK c fun c0 c1 c2=>?_;go_enter func60,ntmps60;go_upto_region 1 with fail;try rw[d]
 try rw[g]
 go_wp2;go_ret;exact⟨rfl,b⟩
def ab7(j:List Ky)(leaf:nD)(p K)(n kc I J:Nat)(w)(hn:j.length=n)(hnl:n<=1000000)(N:n<=kc)(o:cr 3 aeF w K j)(G:∀k∈j,k.key<2^64)(x:OU p)(h1:w.heap[I]?=Ts (Tq #[Tm K n kc] 50 (0,0)))(c:w.heap[J]?=Ts (Tq #[ag leaf.1,ag leaf.2] 56 (0,0))):
  VB UB 58 #[qh p,UK (Ts ⟨I,0,U8⟩),UK (Ts ⟨J,0,U8⟩)] w (bM (U1 (lD j leaf p)) w):=by
 refine P9 h1 c hn o G x fun H1 H2 X Z M z=>have n2:=fun w=>Ad p.leaf leaf w;?_;unfold qh;refine P1 w.heap.size fun E g=>have HSE:=Tn g;P1 (dX w [Tq #[Ti Tl p.log,Ti Tl p.at_,ag p.leaf.1,ag p.leaf.2,ag p.sig.e,ag p.sig.s] 101]) fun f No=>have d:=No;?_;simp only[dX]at d;refine P4 (bZ No) (ei No g) fun m D=>P4 (ai H1 m) (ai H2 m) fun F L=>have s0:=Uc f I 0 _ _ _ F;have R:Hid (kI 60 #[UK (Ts ⟨E,0,U8⟩)] f j aiI (fun k=>k.log==p.log)):=Tn ⟨Vv func60 Pg rfl,fun k _ W hW=>La k p.log E W (ae (Uc f E 0 _ _ _ D) hW)⟩;have Q:=Tn (KQ 60 #[UK (Ts ⟨E,0,U8⟩)] (fun k=>k.log==p.log) j K n kc f R X Ph N (Z.ext m));?_;go_enter func58,ntmps58;go_upto_region 1 with fail;try rw[d]
 try rw[g]
 go_wp2_with fail;refine P2 Q fun t q=>P5 (aa m q) (ai D q) (ai F q) (ai L q) fun A r U H=>Pd r fun c0 c1 c2 c3 c4 c5=>have k0:=Uc t I 0 _ _ _ U;PM H fun l0 l1=>?_;rcases gI (fun k:Ky=>k.log==p.log) j with⟨h1,cf,_⟩|⟨i,k,h1,S,_,cf,_⟩
 .have B:Hid (lD j leaf p=true):=Tn (by unfold lD;rw[cf]);rw[h1];go_upto_region 2 with fail;refine aZ Pg Pg (fun y=>aq t y) (ap _) ?_;repeat
   (first|refine az rfl rfl rfl rfl ?_|refine aF rfl rfl rfl rfl ?_|refine aw rfl ?_|refine aj rfl rfl rfl rfl rfl ?_|((first|refine av (v:=?_) rfl rfl (fun hb y l=>?_) ?_|refine ar (v:=?_) rfl rfl rfl (fun P hb y l=>?_) ?_|refine ax (v:=?_) rfl (fun y l=>?_) ?_);rotate_left;(focus(have z2:=ae c2 l;have z3:=ae c3 l;have Y:=ae l0 l;have y1:=ae l1 l;unfold ak;go_simp;first|exact aD l))))
   simp only[Ua,P7]
  exact Th
 have B:Hid (lD j leaf p=(!(p.leaf==leaf)||p7 k p !=0)):=Tn (by unfold lD;rw[cf]);rw[h1];have hin:i<n:=by have:=(UU.1 S).1;have:=X.out;omega
 obtain⟨b1,o1,O,Y,y1,y2⟩:=(Z.ext A) i k S;subst O;have V:=Tn (M k (Uv S));have T:=Tn (fun W=>wG k.log k.delay k.key p.log p.at_ p.leaf p.sig.e p.sig.s W V z.a z.b z.e z.s);have hneg:¬((i:Int)<0):=Ph;have hi2:(i:Int)<(n:Int):=Ph;go_upto_region 2 with fail;refine aZ Pg Pg (fun y=>aq t y) (ap _) ?_;repeat
  (first|refine az rfl rfl rfl rfl ?_|refine aF rfl rfl rfl rfl ?_|refine aw rfl ?_|refine aj rfl rfl rfl rfl rfl ?_|((first|refine av (v:=?_) rfl rfl (fun hb y l=>?_) ?_|refine ar (v:=?_) rfl rfl rfl (fun P hb y l=>?_) ?_|refine ax (v:=?_) rfl (fun y l=>?_) ?_);rotate_left;(focus(have z0:=ae c0 l;have z1:=ae c1 l;have z2:=ae c2 l;have z3:=ae c3 l;have z4:=ae c4 l;have z5:=ae c5 l;have x0:=ae l0 l;have x1:=ae l1 l;have kk:=ae k0 l;have v0:=ae Y l;have v1:=ae y1 l;have v2:=ae y2 l;unfold ak;go_simp;first|exact aD l|(go_at_call 61;refine(T _).mono ?_;rintro e w''⟨rfl,c⟩;exact aH (aa l c))))))
  simp only[Ua,P7]
 exact Th
def Li{α:Type}{p:α->Bool}{l:List α}(h:kR p l=i):(l.take i).filter (fun x=> !p x)=l.take i:=by
 unfold kR at h;cases cf:l.findIdx? p with
 |none=>rw[cf]at h;simp at h
 |some k=>
  rw[cf]at h;have o:k=i:=by simp at h;omega
  subst o;obtain⟨o,_,b⟩:=List.findIdx?_eq_some_iff_getElem.1 cf;rw[List.filter_eq_self];intro x m;obtain⟨j,Q,rfl⟩:=List.mem_iff_getElem.1 m;rw[VZ]at Q;rw[List.getElem_take];have:=b j Ph;simpa using this
structure qK(w0 W:UN)(g cap:Nat)(l:List gW)(p:gW->Bool)(i j:Nat):Prop where
 ext:aq w0 W
 row:∃cur,W.heap[g]?=Ts (Tq cur 101 (0,0))/\cur.size=cap*6/\∀m x,j<=m->l[m]?=Ts x->∀r u,(kO x)[r]?=Ts u->cur[m*6+r]?=Ts u
 cnt:i=((l.take j).filter fun x=> !p x).length
 lt:i<j
def qK.world{f m l}{p:gW->Bool}(h:qK f W g cap l p i j)(d:aq W m):qK f m g cap l p i j:=by
 obtain⟨h1,⟨b,c,A,r⟩,o,q⟩:=h;exact⟨aa h1 d,⟨b,ai c d,A,r⟩,o,q⟩
def qK.skip{l}{p:gW->Bool}{x}(h:qK d W g cap l p i j)(q:l[j]?=Ts x)(f:p x=true):qK d W g cap l p i (j+1):=by
 obtain⟨h1,⟨b,c,A,r⟩,o,s⟩:=h;refine⟨h1,⟨b,c,A,fun m y K=>r m y Ph⟩,?_,Ph⟩;rw[aW q,List.filter_append,Uo,<-o];simp[f]
def qK.keep{f l}{p:gW->Bool}{x}(h:qK f W g cap l p i j)(J:f.heap.size<=g)(D:l[j]?=Ts x)(E:p x=false):
  qK f (((((((W).setCell ⟨g,i*6,U8⟩ (Ti Tl x.log)).setCell ⟨g,i*6+1,U8⟩ (Ti Tl x.at_)).setCell ⟨g,i*6+2,U8⟩ (ag x.leaf.1)).setCell ⟨g,i*6+3,U8⟩ (ag x.leaf.2)).setCell ⟨g,i*6+4,U8⟩ (ag x.sig.e)).setCell ⟨g,i*6+5,U8⟩ (ag x.sig.s)) g cap l p (i+1) (j+1):=by
 obtain⟨h1,⟨d,c,A,t⟩,F,G⟩:=h;have k0:((W).setCell ⟨g,i*6,U8⟩ (Ti Tl x.log)).heap[g]?=Ts (Tq ((d).setIfInBounds (i*6) (Ti Tl x.log)) 101 (0,0)):=VE _ g (i*6) _ _ _ c;have q:(((W).setCell ⟨g,i*6,U8⟩ (Ti Tl x.log)).setCell ⟨g,i*6+1,U8⟩ (Ti Tl x.at_)).heap[g]?=Ts (Tq (((d).setIfInBounds (i*6) (Ti Tl x.log)).setIfInBounds (i*6+1) (Ti Tl x.at_)) 101 (0,0)):=VE _ g (i*6+1) _ _ _ k0;have z:((((W).setCell ⟨g,i*6,U8⟩ (Ti Tl x.log)).setCell ⟨g,i*6+1,U8⟩ (Ti Tl x.at_)).setCell ⟨g,i*6+2,U8⟩ (ag x.leaf.1)).heap[g]?=Ts (Tq ((((d).setIfInBounds (i*6) (Ti Tl x.log)).setIfInBounds (i*6+1) (Ti Tl x.at_)).setIfInBounds (i*6+2) (ag x.leaf.1)) 101 (0,0)):=VE _ g (i*6+2) _ _ _ q;have o:(((((W).setCell ⟨g,i*6,U8⟩ (Ti Tl x.log)).setCell ⟨g,i*6+1,U8⟩ (Ti Tl x.at_)).setCell ⟨g,i*6+2,U8⟩ (ag x.leaf.1)).setCell ⟨g,i*6+3,U8⟩ (ag x.leaf.2)).heap[g]?=Ts (Tq (((((d).setIfInBounds (i*6) (Ti Tl x.log)).setIfInBounds (i*6+1) (Ti Tl x.at_)).setIfInBounds (i*6+2) (ag x.leaf.1)).setIfInBounds (i*6+3) (ag x.leaf.2)) 101 (0,0)):=VE _ g (i*6+3) _ _ _ z;have B:((((((W).setCell ⟨g,i*6,U8⟩ (Ti Tl x.log)).setCell ⟨g,i*6+1,U8⟩ (Ti Tl x.at_)).setCell ⟨g,i*6+2,U8⟩ (ag x.leaf.1)).setCell ⟨g,i*6+3,U8⟩ (ag x.leaf.2)).setCell ⟨g,i*6+4,U8⟩ (ag x.sig.e)).heap[g]?=Ts (Tq ((((((d).setIfInBounds (i*6) (Ti Tl x.log)).setIfInBounds (i*6+1) (Ti Tl x.at_)).setIfInBounds (i*6+2) (ag x.leaf.1)).setIfInBounds (i*6+3) (ag x.leaf.2)).setIfInBounds (i*6+4) (ag x.sig.e)) 101 (0,0)):=VE _ g (i*6+4) _ _ _ o;have C:(((((((W).setCell ⟨g,i*6,U8⟩ (Ti Tl x.log)).setCell ⟨g,i*6+1,U8⟩ (Ti Tl x.at_)).setCell ⟨g,i*6+2,U8⟩ (ag x.leaf.1)).setCell ⟨g,i*6+3,U8⟩ (ag x.leaf.2)).setCell ⟨g,i*6+4,U8⟩ (ag x.sig.e)).setCell ⟨g,i*6+5,U8⟩ (ag x.sig.s)).heap[g]?=Ts (Tq (((((((d).setIfInBounds (i*6) (Ti Tl x.log)).setIfInBounds (i*6+1) (Ti Tl x.at_)).setIfInBounds (i*6+2) (ag x.leaf.1)).setIfInBounds (i*6+3) (ag x.leaf.2)).setIfInBounds (i*6+4) (ag x.sig.e)).setIfInBounds (i*6+5) (ag x.sig.s)) 101 (0,0)):=VE _ g (i*6+5) _ _ _ B;have P:Fr (fun b=>b=g) W (((((((W).setCell ⟨g,i*6,U8⟩ (Ti Tl x.log)).setCell ⟨g,i*6+1,U8⟩ (Ti Tl x.at_)).setCell ⟨g,i*6+2,U8⟩ (ag x.leaf.1)).setCell ⟨g,i*6+3,U8⟩ (ag x.leaf.2)).setCell ⟨g,i*6+4,U8⟩ (ag x.sig.e)).setCell ⟨g,i*6+5,U8⟩ (ag x.sig.s)):=(Uz (S:=fun b=>b=g) _ ⟨g,_,U8⟩ _ rfl).trans ((Uz (S:=fun b=>b=g) _ ⟨g,_,U8⟩ _ rfl).trans ((Uz (S:=fun b=>b=g) _ ⟨g,_,U8⟩ _ rfl).trans ((Uz (S:=fun b=>b=g) _ ⟨g,_,U8⟩ _ rfl).trans ((Uz (S:=fun b=>b=g) _ ⟨g,_,U8⟩ _ rfl).trans (Uz (S:=fun b=>b=g) _ ⟨g,_,U8⟩ _ rfl)))));refine⟨h1.trans (P.below h1.size (fun b hb=>by have I:b=g:=hb;omega)),⟨_,C,by simp[A],fun m y K U r u X=>?_⟩,?_,Ph⟩
 .have H:r<6:=(UU.1 X).1;rw[Wg Ph,Wg Ph,Wg Ph,Wg Ph,Wg Ph,Wg Ph];exact t m y Ph U r u X
 rw[aW D,List.filter_append,Uo,<-F];simp[E]
def qK.cells{l}{p:gW->Bool}{x:gW}(h:qK d W g cap l p i j)(m:l[j]?=Ts x):
  W.cell? ⟨g,j*6,U8⟩=Ts (Ti Tl x.log)/\W.cell? ⟨g,j*6+1,U8⟩=Ts (Ti Tl x.at_)/\W.cell? ⟨g,j*6+2,U8⟩=Ts (ag x.leaf.1)/\W.cell? ⟨g,j*6+3,U8⟩=Ts (ag x.leaf.2)/\W.cell? ⟨g,j*6+4,U8⟩=Ts (ag x.sig.e)/\W.cell? ⟨g,j*6+5,U8⟩=Ts (ag x.sig.s):=by
 obtain⟨_,⟨b,c,A,f⟩,_,_⟩:=h;have J:=f j x (UY _) m;refine⟨?_,?_,?_,?_,?_,?_⟩<;>rw[Uc W g _ _ _ _ c]
 .exact J 0 _ rfl
 .exact J 1 _ rfl
 .exact J 2 _ rfl
 .exact J 3 _ rfl
 .exact J 4 _ rfl
 exact J 5 _ rfl
def qK.olds{l}{p:gW->Bool}(h:qK d W g cap l p i j)(Q:j<n)(hn:n<=cap)(r:Nat)(u:r<6):
  (∃o,W.cell? ⟨g,i*6+r,U8⟩=Ts o)/\W.frozen? ⟨g,i*6+r,U8⟩=false:=by
 obtain⟨_,⟨b,c,A,m⟩,_,f⟩:=h;refine⟨?_,VQ W g _ _ _ c⟩;rw[Uc W g _ _ _ _ c,Vy (by rw[A];omega)];exact⟨_,rfl⟩
def Ki(F E)(p:gW->Bool)(l)(v:UV)(n base O w)(cf:kI F E O l qh p)(hE:aq O w)(C:w.ownsRow base 101 6 v n (l.flatMap kO))(hb:O.heap.size<=base)(G:l.length=n)(hn:n<=1000000):
  VB UB 62 #[v,.func (.func F) #[] E] w (fun e w'=>∃a c,e=UO (Tm a (l.filter fun x=> !p x).length c)/\aq O w'):=by
 refine P3 G cf hE fun HL HF ys=>have eg:=cf.enters;?_;obtain⟨N,hN⟩:∃N,(l.filter fun x=> !p x).length=N:=⟨_,rfl⟩;have HN:=Tn hN;rw[hN];rcases C.2 with⟨rfl,L⟩|⟨g,cap,cur,rfl,hbg,S,hnc,hcm,hcs,H⟩
 .subst L;have hl0:l=[]:=VA G;have d:=Tn (zO F E p l U8 0 0 w (cf.ext hE) G Ph Ph (by rw[hl0];exact ZO _ _ _ _));rw[hl0]at d HN;obtain rfl:N=0:=by rw[<-HN.out];rfl
  go_enter func62,ntmps62;go_wp2_with fail;refine P2 d fun w2 D=>have T:=Tn (aa ys D);?_;rw[show kR p ([]:List gW)=-1 from rfl];go_wp2;go_ret;exact⟨_,_,rfl,T⟩
 obtain⟨a',c',hv,h1,h2,A⟩:=kZ (m:=6) (R:=Nd) (cells:=kO) (fun _=>rfl) (fun b o x I J=>⟨QR,J 1 _ rfl,J 2 _ rfl,J 3 _ rfl,J 4 _ rfl,J 5 _ rfl⟩) G C;rw[G]at hv;cases hv;refine P9 (zO F E p l (Ts ⟨g,0,U8⟩) n cap w (cf.ext hE) G Ph hnc A) S hcs hnc H (VG hb hbg) fun d HG HCS t HTK HGB=>have K:VL=9223372036854775807:=rfl;?_;rw[K]at hcm;have P:(l.flatMap kO).length=n*6:=by rw[dN (m:=6) (f:=kO) (fun _=>rfl),G]
 rcases gI p l with⟨h1,_,A⟩|⟨i0,x0,h1,W,hp0,_,_⟩
 .have M:(l.filter fun x=> !p x)=l:=by
   rw[List.filter_eq_self];intro x I;rw[List.any_eq_false]at A;simpa using A x I
  obtain rfl:N=n:=by rw[<-HN.out,M,G]
  rw[h1]at d;go_enter func62,ntmps62;go_wp2_with fail;refine P2 d fun w2 D=>have T:=Tn (aa ys D);?_;go_wp2;go_ret;exact⟨_,_,rfl,T⟩
 have hin:=(UU.1 W).1;rw[h1]at d
 have HI0:Hid (qK O w g cap l p i0 (i0+1)):=Tn ⟨ys,⟨cur,HG,HCS,fun m x K I r u X=>by
  have hr:r<6:=(UU.1 X).1
  have hml:=(UU.1 I).1
  have cf:=fC (m:=6) (f:=kO) (fun _=>rfl) r I hr
  have ht:=congrArg (fun q=>q[m*6+r]?) HTK
  rw[List.getElem?_take,if_pos Ph,cf,X,YN]at ht
  exact ht⟩,by rw[aW W,List.filter_append,Li h1,Uo,VZ];simp[hp0];omega,Ph⟩
 have zs:((i0:Int)==-1)=false:=beq_eq_false_iff_ne.2 Ph;have hin':i0<n:=Ph;go_enter func62,ntmps62;go_wp2_with fail;refine P2 d fun w2 D=>have HI2:=Tn (HI0.world D);?_;go_wp2;go_loopw [5,6,7] (fun s5 s6 _ wr=>∃i j:Nat,s5=Ti Tl i/\s6=Ti Tl j/\j<=n/\qK O wr g cap l p i j) (fun _ s6 _ _=>n-(VS s6).toNat)
 case atStart=>exact⟨i0,i0+1,rfl,Pt,Ph,HI2⟩
 obtain⟨i,j,rfl,rfl,Q,hI⟩:=hrel;have U:=Tn hI;have hij:=hI.lt;by_cases y:j<n
 .obtain⟨x,I⟩:=ay HL y;refine P4 (HF.does x (Uv I)) I fun HD HX=>?_;unfold qh ag at HD;obtain⟨y0,y1,y2,y3,y4,y5⟩:=U.out.cells I;have hjc:(j:Int)<(n:Int):=Ph;go_wp2_with fail;refine P2 (HD _ (af U.ext _)) fun W5 Y=>P4 (U.world (aa (af P0 _) Y)) (ai (UZ wr _) Y) fun s z=>P1 wr.heap.size fun B hB=>?_;rw[hB]at z⊢;cases hp:p x with
  |true=>
   have V:=Tn hp;go_wp2;go_roundw
   case rel=>exact⟨i,j+1,rfl,Pt,Ph,s.skip HX V⟩
   case measure=>simp[VS];omega
  |false=>
   have V:=Tn hp;obtain⟨⟨o0,L⟩,f0⟩:=s.out.olds y t 0 Pi;obtain⟨⟨o1,h1⟩,f1⟩:=s.out.olds y t 1 Pi;obtain⟨⟨o2,h2⟩,f2⟩:=s.out.olds y t 2 Pi;obtain⟨⟨o3,A⟩,f3⟩:=s.out.olds y t 3 Pi;obtain⟨⟨o4,h4⟩,f4⟩:=s.out.olds y t 4 Pi;obtain⟨⟨o5,h5⟩,f5⟩:=s.out.olds y t 5 Pi;rw[YF]at L f0;refine Pd z fun b0 b1 b2 b3 b4 b5=>have hic:(i:Int)<(n:Int):=Ph;?_;go_wp2;go_roundw
   case rel=>exact⟨i+1,j+1,Pt,Pt,Ph,s.keep HGB HX V⟩
   case measure=>simp[VS];omega
 obtain rfl:j=n:=by omega
 refine P1 ((WP (UT #[Ti Tl 0,Ti Tl 0,Ti Tt 0,Ti Tt 0,Ti Tt 0,Ti Tt 0]).cells (j-i)).toList) fun Z hZ=>?_;have hcl:∀ty,(Builtin.clear_ #[93] ty #[Tm (Ts ⟨g,i*6,U8⟩) (j-i) (cap-i)]).run UB wr= .ok (UW #[]) (wr.setCells g (i*6) Z):=fun ty=>by
  obtain⟨cur2,hr,hsz,_⟩:=U.out.row;rw[<-hZ];exact ES wr ty g (i*6) (j-i) (cap-i) cur2 hr (by rw[hsz];have:=t.out;omega) Ph
 have HFZ:=Tn (U.ext.trans ((nM g Z (i*6) wr).below U.ext.size (fun b hb=>by have:=HGB.out;have e':b=g:=hb;omega)));have HNI:Hid (N=i):=Tn (by rw[<-HN.out,U.out.cnt,VD QT]);go_wp2;go_ret;rw[HNI.out];exact⟨_,_,rfl,HFZ⟩
def CF{b:au}{e}(h:cz b= .error e):e≠0:=by
 unfold cz at h;cases S:dh 8 b with
 |error x=>
  rw[S]at h;cases h;rcases rB S with rfl|rfl<;>decide
 |ok p=>
  obtain⟨y,rest⟩:=p;rw[S]at h;dsimp only at h;split at h
  .cases h;decide
  split at h
  .cases h;decide
  split at h
  .cases h
  cases h;decide
def IP(A:List Ky)(ka n kc)(t1 t2:UV)(b:au)(bv)(d:ff->Bool×Int)(w)(H:aU w)(hb:aJ w bv b)(hbl:b.length<=1000000)(hn:A.length=n)(hnl:n<=1000000)(hnc:n<=kc)(hkc:kc<=VL)(o:cr 3 aeF w ka A)(hkn:∀k∈A,k.key<2^64)(hDec:∀(c:ff)(na:Option VW)(nc:Nat)(W:UN),aq w W->cz b= .ok c->kQ c->c.names.length<=nc->nc<=VL->js W na (c.names.map aL)->
   VB UB 64 #[UT #[t1,t2],UT #[Ti Tl 0,Tm na c.names.length nc,ag c.key,Ti Tl (wrap64 (c.until_-c.from_))]] W (fun e W'=>∃r a m q,e=UO (UW #[UT #[U1 (d c).1,Ti Tl r,Tm a m q],Ti Tl (d c).2])/\aq W W')):
  VB UB 18 #[bv,Tm ka n kc,UT #[t1,t2]] w (bM (Ti Tl (ow d A b)) w):=by
 refine P9 H hn o hkn hDec (Xy hnl (Xy hnc hkc)) fun HKD HN HK HKN HDEC HNC=>P1 (ow d A b) fun R hR=>?_
 have Z:Hid (R=match cz b with
  | .error e=>e
  | .ok c=>
   if(c.proms.filter fun p=> !lD A (zg c) p).length<2 then 251 else
   if c.ca then 161 else
   if(d c).2=0/\(d c).1=false then 161 else(d c).2):=Tn (by rw[<-hR];rfl)
 rw[hR];obtain⟨a0,c0,hbv⟩:=hb.form;subst hbv;refine P1 b.length fun bn hbn=>have HGB:=Tn (fun W(g:aq w W)=>tY b _ W (H.ext g) (hb.ext g) hbl);?_;rw[hbn]at HGB⊢;refine P1 w.heap.size fun D hD=>P1 (dX w [Tq #[Tm ka n kc] 50,Tq #[t1,t2] 27]) fun f No=>have hW0:=No;?_;simp only[dX]at hW0;refine P3 (bZ No) (ei No hD) (bW No hD 1 rfl) fun HEW0 HP0 HP1=>?_;go_enter func18,ntmps18;go_upto_region 1 with fail;try rw[hW0]
 try rw[hD]
 go_wp2_with fail;refine(HGB f HEW0).mono ?_;rintro e t⟨u,k,rfl,V,N⟩;refine P3 (aa HEW0 V) (ai HP0 V) (ai HP1 V) fun HE1 HQ0 HQ1=>P1 t.heap.size fun C hC=>have HCC:=Tn hC;P1 (t.alloc (Tq #[Ti Tl 0,UH ⟨#[]⟩,UH ⟨#[]⟩,Ti Tt 0,zz,Ti Tl 0,Ti Tl 0,U1 false,Ti Tl 0,zz,zz,Ti Tt 0,Ti Tt 0] 97)) fun I Y=>have F:=Tn (show aq t I from QQ);have K:Hid (I.heap[C]?=Ts (Tq #[Ti Tl 0,UH ⟨#[]⟩,UH ⟨#[]⟩,Ti Tt 0,zz,Ti Tl 0,Ti Tl 0,U1 false,Ti Tl 0,zz,zz,Ti Tt 0,Ti Tt 0] 97 (0,0))):=Tn (PP Y hC);?_;cases S:cz b with
 |error e=>
  rw[S]at N Z;obtain⟨rfl,rfl⟩:=N;have hk0:(k !=0)=true:=by simpa using CF S
  have B:=Tn Z.out;(iterate 8 go_simp;go_step);go_simp;try rw[Y]
  try rw[hC]
  go_step;refine WS rfl _ _ _ rfl C #[Ti Tl 0,UH ⟨#[]⟩,UH ⟨#[]⟩,Ti Tt 0,zz,Ti Tl 0,Ti Tl 0,U1 false,Ti Tl 0,zz,zz,Ti Tt 0,Ti Tt 0] rfl rfl 97 _ K Pg Q8 Pu ?_;refine P1 (I.setRow C #[Ti Tl 0,UH ⟨#[]⟩,UH ⟨#[]⟩,Ti Tt 0,zz,Ti Tl 0,Ti Tl 0,U1 false,Ti Tl 0,zz,zz,Ti Tt 0,Ti Tt 0]) fun O E=>?_;rw[E];have y:Hid (O.heap[C]?=Ts (Tq #[Ti Tl 0,UH ⟨#[]⟩,UH ⟨#[]⟩,Ti Tt 0,zz,Ti Tl 0,Ti Tl 0,U1 false,Ti Tl 0,zz,zz,Ti Tt 0,Ti Tt 0] 97 (0,0))):=Tn XI;have U:Hid (Fr (fun k=>k=C) I O):=Tn (by rw[<-E];exact bH _ _ _);refine Pb y fun q0 q1 q2 q3 q4 q5 q6 q7 q8 q9 q10 q11 q12=>have HEF:=Tn (aa HE1 (F.trans (U.below F.size (fun k o=>by have:=HCC.out;omega))));?_;go_wp2;go_ret;exact⟨Re,HEF⟩
 |ok c=>
  rw[S]at N Z;obtain⟨rfl,hCN,x,rfl,hst⟩:=N;refine P3 hst hCN S fun j am HG=>P1 c.names.length fun nn hnn=>P1 c.proms.length fun rn ad=>P1 c.ca fun ca al=>P3 hnn ad al fun HNN ah HCA=>?_;unfold fx;rw[hnn,ad,al];(iterate 8 go_simp;go_step);go_simp;try rw[Y]
  try rw[hC]
  go_step;refine WS rfl _ _ _ rfl C #[Ti Tl c.serial,UH (aL c.issuer),UH (aL c.subject),ag c.key,Tm x.na nn x.nc,Ti Tl c.from_,Ti Tl c.until_,U1 ca,Ti Tl c.depth,Tm x.pa c.permit.length x.pc,Tm x.ra rn x.rc,ag c.sig.e,ag c.sig.s] rfl rfl 97 _ K Pg Q8 Q6 ?_;refine P1 (I.setRow C #[Ti Tl c.serial,UH (aL c.issuer),UH (aL c.subject),ag c.key,Tm x.na nn x.nc,Ti Tl c.from_,Ti Tl c.until_,U1 ca,Ti Tl c.depth,Tm x.pa c.permit.length x.pc,Tm x.ra rn x.rc,ag c.sig.e,ag c.sig.s]) fun O E=>?_;rw[E];have y:Hid (O.heap[C]?=Ts (Tq #[Ti Tl c.serial,UH (aL c.issuer),UH (aL c.subject),ag c.key,Tm x.na nn x.nc,Ti Tl c.from_,Ti Tl c.until_,U1 ca,Ti Tl c.depth,Tm x.pa c.permit.length x.pc,Tm x.ra rn x.rc,ag c.sig.e,ag c.sig.s] 97 (0,0))):=Tn XI;have U:Hid (Fr (fun k=>k=C) I O):=Tn (by rw[<-E];exact bH _ _ _);refine Pb y fun q0 q1 q2 q3 q4 q5 q6 q7 q8 q9 q10 q11 q12=>P4 (F.trans (U.below F.size (fun k o=>by have:=HCC.out;omega))) (j t (fun k _=>rfl)) fun Id HC1=>P4 (HC1.ext Id) (aa HE1 Id) fun HC3 P=>have HLF:=Tn (KU c x O HC3 am (HKD.ext P));?_;unfold fx at HLF;rw[hnn,ad,al]at HLF;go_wp2_with fail;refine P2 HLF fun W4 hE4=>P4 (aa P hE4) hE4 fun HE4 HX4=>P1 (zg c) fun leaf Q=>?_;rw[Q]at Z⊢;unfold AJ ag;refine P1 W4.heap.size fun G hG=>P1 (W4.alloc (Tq #[Ti Tt (leaf.1:Int),Ti Tt (leaf.2:Int)] 56)) fun W5 ao=>have HX5:=Tn (show aq O W5 by rw[<-ao];exact af HX4 _);have HRG:Hid (W5.heap[G]?=Ts (Tq #[ag leaf.1,ag leaf.2] 56 (0,0))):=Tn (PP ao hG);P5 (aa P HX5) (ai y HX5) (HC3.ext HX5) (aa Id HX5) fun HE5 HRC5 HC5 HW15=>P4 (ai HQ0 HW15) (ai HQ1 HW15) fun HQ05 HQ15=>have HPF:Hid (kI 58 #[UK (Ts ⟨D,0,U8⟩),UK (Ts ⟨G,0,U8⟩)] W5 c.proms qh (lD A leaf)):=Tn ⟨Vv func58 Pg rfl,fun p hp W hW=>ab7 A leaf p ka n kc D G W HN HNC.1 HNC.2.1 (HK.ext (aa HE5 hW)) HKN (am.prm p hp) (ai HQ05 hW) (ai HRG hW)⟩;have X:Hid (rn<=1000000/\rn<=x.rc):=Tn ⟨by rw[<-ah.out];exact am.out.rl,by rw[<-ah.out];exact HC5.out.rl⟩;have HCL:=Tn (Du c.proms x.ra rn x.rc W5 ah (by have:=X.out;omega) X.2 HC5.proms);have c10:=Uc W5 C 10 _ _ _ HRC5;P4 ao hG fun HW5 HG5=>?_;go_upto_region 6 with fail;try rw[HW5.out]
  try rw[HG5.out]
  go_wp2_with fail;refine HCL.out.mono ?_;rintro e W6⟨v6,rfl,ab,hE6⟩;refine P4 ab hE6 fun HO6 HX6=>?_;go_wp2_with fail;refine(Ki 58 _ (lD A leaf) c.proms v6 rn W5.heap.size W5 W6 HPF HX6 HO6 (UY _) ah X.1).mono ?_;rintro e J⟨a7,c7,rfl,T⟩;refine P5 (aa HE5 T) (ai HRC5 T) (ai HQ15 T) (HC5.ext T) fun an z HQ17 HC7=>?_;obtain⟨m7,hm7⟩:∃k,(c.proms.filter fun p=> !lD A leaf p).length=k:=⟨_,rfl⟩;rw[hm7];rw[hm7,HCA.out]at Z;refine Pb z fun c0 c1 c2 c3 c4 c5 c6 c7 c8 c9 c10 c11 c12=>?_;by_cases h2:m7<2
  .have h2':(m7:Int)<2:=by omega
   have B:Hid (R=251):=Tn (by rw[Z.out,if_pos h2]);go_wp2;go_ret;exact⟨Re,an⟩
  have h2':¬(m7:Int)<2:=by omega
  have K:=Tn (Z.trans (if_neg h2));cases ca with
  |true=>
   have B:Hid (R=161):=Tn (by rw[K.out,if_pos rfl]);go_wp2;go_ret;exact⟨Re,an⟩
  |false=>
   have HR3:Hid (R=if(d c).2=0/\(d c).1=false then 161 else(d c).2):=Tn (by rw[K.out,if_neg Pm]);refine PM HQ17 fun d0 d1=>have ac:=HDEC.out c x.na x.nc J an HG am HC7.nl HC7.nm HC7.names;?_;rw[HNN.out]at ac;refine P1 ((d c).2) fun de hde=>P1 ((d c).1) fun dv hdv=>?_;rw[hde,hdv]at ac HR3;have ac:=Tn ac;go_wp2_with fail;refine ac.out.mono ?_;rintro e W8⟨r8,a8,m8,q8,rfl,hE8⟩;refine P1 W8.heap.size fun G8 hG8=>P1 (W8.alloc (Tq #[U1 dv,Ti Tl r8,Tm a8 m8 q8] 145)) fun W9 hW9=>have HE9:=Tn (show aq w W9 by rw[<-hW9];exact af (aa an hE8) _);have HR9:Hid (W9.heap[G8]?=Ts (Tq #[U1 dv,Ti Tl r8,Tm a8 m8 q8] 145 (0,0))):=Tn (PP hW9 hG8);P4 hW9 hG8 fun HW9 HG9=>have v0:=Uc W9 G8 0 _ _ _ HR9;?_;go_upto_region 11 with fail;(try rw[HW9.out]);(try rw[HG9.out]);refine aG (fun w'=>aq W9 w') P0 ?_;repeat
    (first|refine az rfl rfl rfl rfl ?_|refine aF rfl rfl rfl rfl ?_|refine aw rfl ?_|refine aj rfl rfl rfl rfl rfl ?_|((first|refine av (v:=?_) rfl rfl (fun hb w' l=>?_) ?_|refine ar (v:=?_) rfl rfl rfl (fun hb1 hb w' l=>?_) ?_|refine ax (v:=?_) rfl (fun w' l=>?_) ?_);rotate_left;(focus(have z0:=ae v0 l;unfold ak;go_simp;first|exact aD l))))
    simp only[Ua,P7]
   refine aA fun W10 hE10=>have M:=Tn (aa HE9 hE10);?_;by_cases L:de=0
   .subst L;cases dv
    .have B:Hid (R=161):=Tn (by rw[HR3.out];rfl);go_wp2;go_ret;exact⟨Re,M⟩
    have B:Hid (R=0):=Tn (by rw[HR3.out];rfl);go_wp2;go_ret;exact⟨Re,M⟩
   have hb:(de==0)=false:=beq_eq_false_iff_ne.2 L;have B:Hid (R=de):=Tn (by rw[HR3.out,if_neg (fun h=>L h.1)]);cases dv
   .go_wp2_with fail;all_goals first
     |(rename_i hx;exact absurd (hb.symm.trans hx.1) Pm)
     |(go_ret;exact⟨Re,M⟩)
   go_wp2_with fail;all_goals first
    |(rename_i hx;exact absurd (hb.symm.trans hx.1) Pm)
    |(rename_i hx;exact absurd hx.2 Pm)
    |(go_ret;exact⟨Re,M⟩)
section
def acV:0<Ih.key/\Ih.key<1152921504606845789:=Pj
def acO:0<Ir.key/\Ir.key<1152921504606845789:=Pj
def ahQ:gW:=⟨0,0,(0,0),⟨0,0⟩⟩
def pK(l:Lg)(b:au):gW:=if dz b then ag1 l b 1 else ahQ
def fu(ser:Int)(name:au)(life:Int):ff:={mJ ser name life with proms:=[pK Ih (pO ser name life),pK Ir (pO ser name life)]}
def Oy{name:au}(h:dz (pO ser name life)=true):fu ser name life=Br ser name life:=by unfold fu Br pK;rw[if_pos h,if_pos h]
def agF(b:au):JU Ih b 1=if dz b then 0 else 1:=by
 have h:lj Ih=0:=Pj;unfold JU;rw[if_neg (by rw[h];simp)];cases hb:dz b<;>simp[show dZ 1=true from Pi,AG,J6,Ih,Ht]
def agV(b:au):JU Ir b 1=if dz b then 0 else 1:=by
 have h:lj Ir=0:=Pj;unfold JU;rw[if_neg (by rw[h];simp)];cases hb:dz b<;>simp[show dZ 1=true from Pi,AG,J6,Ir,Ht]
def LB(ser)(name:au)(life):ep ser name life=((cB (mJ ser name life) (fI (mJ ser name life))==0)&&(dz (pO ser name life)&&(cB (fu ser name life) (du (fu ser name life))==0))):=by
 have h1:lj Ih=0:=Pj;have c:lj Ir=0:=Pj;unfold ep;rw[h1,c,agF,agV];cases hb:dz (pO ser name life)with
 |true=>rw[Oy hb];simp
 |false=>simp
def ahX(ser:Int)(name:au)(life:Int)(w:UN)(e:Xo)(w':UN):Prop:=∃ba b bc c kc s,e=UO (UW #[Tm ba b bc,Tm c 2 kc,U1 (ep ser name life)])/\aq w w'/\aJ w' (Tm ba b bc) s/\s.length<=1000000/\(ep ser name life=true->s=fB ser name life)/\cr 3 aeF w' c iw/\2<=kc/\kc<=VL
def LS(l id key)(hl:l=⟨id,key,5,[],[],[]⟩)(hi:dZ id=true)(L:0<key)(h1:key<1152921504606845789)(b:au)(v W)(m:aJ W v b)(c:b.length<=1000000):
  VB UB 28 #[UT #[Ti Tl id,ag key,Ti Tl 5,zz,zz,zz],v,Ti Tl 1] W (fun e w'=>∃(i:Int)(k:Nat)(d:Int)(j:Option VW)(o f:Nat),e=UO (UW #[UT #[Ti Tl i,ag k,Ti Tl d,zz,zz,Tm j o f],qh (pK l b),Ti Tl (if dz b then 0 else 1)])/\aq W w'):=by
 subst hl;cases hb:dz b with
 |true=>
  refine(O2 id 5 key b 1 v W hi L h1 Pi Pi m hb Pi).mono ?_;rintro e w'⟨j,f,rfl,g⟩;refine⟨id,key,5,j,1,f,?_,g⟩;unfold pK;rw[if_pos hb];rfl
 |false=>
  refine P2 (MD id 5 key b 1 v W hi L h1 Pi Pi m hb c) fun w' g=>⟨0,0,0,U8,0,0,?_,g⟩;unfold pK;rw[if_neg (by rw[hb];simp)];rfl
def agL{name:au}(h:name.length<=1000):kQ (mJ ser name life) where
 key:=by show(4:Nat)<_;decide
 e:=Sz
 s:=Sz
 prm:=fun p x=>Zbq
 iss:=T2
 sub:=S9
 nms:=fun s z=>by
  rcases VN.1 z with rfl|z
  .omega
  cases z
 prt:=fun s z=>Zb0
 nl:=T2
 pl:=S9
 rl:=S9
def Oh(k)(m:au):(lW k m).e<2^64/\(lW k m).s<2^64:=
 ⟨WF (mF _ _ _) Pi,WF (uy _ _) Pi⟩
def Ip(l)(b:au):OU (pK l b):=by
 unfold pK;split
 .have h:=xj b;have z:=fun m=>Oh l.key m;exact⟨h.1,h.2,(z _).1,(z _).2⟩
 exact⟨Pi,Pi,Pi,Pi⟩
def agP{name:au}(h:name.length<=1000):kQ (fu ser name life) where
 key:=by show(4:Nat)<_;decide
 e:=Sz
 s:=Sz
 prm:=fun p x=>by
  rcases VN.1 x with rfl|x
  .exact Ip _ _
  rcases VN.1 x with rfl|x
  .exact Ip _ _
  cases x
 iss:=T2
 sub:=S9
 nms:=fun s z=>by
  rcases VN.1 z with rfl|z
  .omega
  cases z
 prt:=fun s z=>Zb0
 nl:=T2
 pl:=S9
 rl:=by show(2:Nat)<=_;decide
def acW(c):(jy c (fI c)).length<=100000:=by
 unfold jy;split
 .next h=>
  unfold cB at h;split at h
  .next h1=>exact absurd h h1
  next h1=>exact(iK (fw (Xn.1 h1)).1).2.2
 simp
def Mj(c):(jy c (du c)).length<=100000:=by
 unfold jy;split
 .next h=>
  unfold cB at h;split at h
  .next h1=>exact absurd h h1
  next h1=>exact(iK (fw (Xn.1 h1)).1).2.1
 simp
def vE{c}{y:aQ}(L:cB c y=0->w'.ownsRow w.heap.size 5 1 v (cy y).length (Lib.byteCells (cy y)))(h1:cB c y≠0->v=zz):aJ w' v (jy c y):=by
 by_cases h:cB c y=0
 .unfold jy;rw[if_pos h];exact Yz rfl (L h)
 unfold jy;rw[if_neg h,h1 h];exact⟨U8,0,rfl,UY _,VF _,fun i x m=>by simp at m⟩
def Lt{B:Nat}{r q m s p o l g j f c d:UV}(hr:w.heap[B]?=Ts (Tq #[x0,r,q,m,s,p,o,l,g,j,f,c,d] t (0,0)))(u:UV):
  (w.setCell ⟨B,10,U8⟩ u).heap[B]?=Ts (Tq #[x0,r,q,m,s,p,o,l,g,j,u,c,d] t (0,0))/\Fr (fun i=>i=B) w (w.setCell ⟨B,10,U8⟩ u):=⟨(VE _ B 10 _ _ _ hr).trans Pm,Uz (S:=fun b=>b=B) _ ⟨B,10,U8⟩ _ rfl⟩
def uB(w:UN)(c:UInt8):aJ (w.alloc (Tq #[Ti Uy (c.toNat:Int)] 5 (1,2))) (Tm (Ts ⟨w.heap.size,0,U8⟩) 1 1) [c]:=⟨_,_,rfl,UY _,Pi,fun i x m=>by
 match i,m with
 |0,m=>cases m;exact⟨_,_,rfl,Uc _ _ 0 _ _ _ (UZ w _)⟩⟩
section
attribute [local irreducible] ak aN
def Hg(ba:Option VW)(d:Nat)(bc:Nat)(b:Nat)(c:Nat)(ok:Bool):List (UV->UN->Prop):=
 [ev (Tm ba d bc),
  ev (UT #[Ti Tl 0,ag b,Ti Tl 5]),
  ev (UT #[Ti Tl 1,ag c,Ti Tl 5]),
  fun v w=>∃g,v=Tm (Ts ⟨g,0,U8⟩) 2 2/\w.heap[g]?=Ts (Tq #[Ti Tl 0,ag b,Ti Tl 5,Ti Tl 1,ag c,Ti Tl 5] 90 (0,0)),
  ev (U1 ok),
  ev (Tm ba d bc),
  fun v w=>∃g,v=Tm (Ts ⟨g,0,U8⟩) 2 2/\w.heap[g]?=Ts (Tq #[Ti Tl 0,ag b,Ti Tl 5,Ti Tl 1,ag c,Ti Tl 5] 90 (0,0)),
  ev (U1 ok)]
def sT{p:Prop}(h:p:=by
  intro s vs w' hlo hhi hl hK hd;obtain rfl:s=0:=Ph;clear hlo hhi;have HK0:Hid (aq WZ w'):=hK;clear hK;simp only[aK,Ua,PV];try rw[dq hd 0 Pj rfl]
  try rw[dq hd 1 Pj rfl]
  try rw[dq hd 2 Pj rfl]
  try(have h_3:=hd 3 Pj;simp only[PW,Hg]at h_3;refine UX h_3 fun g h_3=>?_;have hv_3:=h_3.1;have H_3_0:=Tn h_3.2;clear h_3;rw[hv_3];clear hv_3)
  try rw[dq hd 4 Pj rfl]
  try rw[dq hd 5 Pj rfl]
  try(have h_6:=hd 6 Pj;simp only[PW,Hg]at h_6;refine UX h_6 fun g h_6=>?_;have hv_6:=h_6.1;have H_6_0:=Tn h_6.2;clear h_6;rw[hv_6];clear hv_6)
  have HL:=Tn hl;clear hd hl;try(have hr:=ai HKA HK0;refine PK hr fun z0 z1 z2=>?_)
  try(have hr:=ai HKB HK0;refine PK hr fun z0 z1 z2=>?_)
  unfold ak;go_simp
  exact⟨rfl,P0⟩):p:=h
def mA(ser)(name:au)(life w)(hK:aU w)(hnl:name.length<=1000):VB UB 8 #[Ti Tl ser,UH (aL name),Ti Tl life] w (ahX ser name life w):=by
 refine P4 hK hnl fun HKD HNL=>P1 Ih.key fun ska Z=>P1 Ir.key fun skb ad=>P1 (aL name) fun nm hnm=>P3 Z ad hnm fun HSA HSB HNM=>have hA:=acV;have hB:=acO;?_;rw[Z]at hA;rw[ad]at hB;refine P9 (fun v W(hv:aJ W v [97])=>zu 0 5 ska [97] v W hv Pi Z Pi hA.1 hA.2 Pi Pi) (fun v W(hv:aJ W v [98])=>zu 1 5 skb [98] v W hv Pi ad Pi hB.1 hB.2 Pi Pi) (fun W=>rF 0 5 ska W Pi hA.1 hA.2 Pi Pi) (fun W=>rF 1 5 skb W Pi hB.1 hB.2 Pi Pi) (fun E v W hv hlen=>LS Ih 0 ska (by rw[<-Z];rfl) Pi hA.1 hA.2 E v W hv hlen) (fun E v W hv hlen=>LS Ir 1 skb (by rw[<-ad];rfl) Pi hB.1 hB.2 E v W hv hlen) fun HNA HNB HPA HPB HADA HADB=>P1 (base ska) fun keyA hkA=>P1 (base skb) fun keyB hkB=>?_;rw[hkA]at HPA;rw[hkB]at HPB;refine P4 hkA hkB fun HKYA HKYB=>?_;rw[hnm];clear hA hB Z ad hkA hkB hnm hK hnl;refine P1 w.heap.size fun D hD=>P1 (w.alloc (Tq #[Ti Uy 97] 5 (1,2))) fun t T=>have HE1:=Tn (show aq w t from QA);have HBA:Hid (aJ t (Tm (Ts ⟨D,0,U8⟩) 1 1) [97]):=Tn (by rw[<-T,<-hD];exact uB w 97);P4 hD T fun HD HW1=>?_;clear hD T;have kc:=fun(w:UN)(C:Array UV)(n c:Nat)=>Lib.run_convert_bytes_const (P:=UB) w 37 5 C n c underlying37 underlying5;go_enter func8,ntmps8;go_upto_region 1 with fail;try rw[HD.out]
 go_wp2_with fail;try rw[HD.out]
 try erw[HW1.out]
 refine(HNA _ t HBA).mono ?_;rintro e I⟨rfl,hE2⟩;have HEW2:=Tn (aa HE1 hE2);clear hE2;refine nV I (Tq #[Ti Tl 0,ag ska,Ti Tl 5,zz,zz,zz] 86) fun H O HGLA HW3 HXW3 HRGLA=>have HEW3:=Tn (aa HEW2 HXW3);P1 (O.alloc (Tq #[Ti Uy 98] 5 (1,2))) fun W4 hW4=>P1 O.heap.size fun D4 hD4=>have HX4:=Tn (show aq O W4 by rw[<-hW4];exact af P0 _);have HBB:Hid (aJ W4 (Tm (Ts ⟨D4,0,U8⟩) 1 1) [98]):=Tn (by rw[<-hW4,<-hD4];exact uB O 98);P4 hD4 hW4 fun HD4 HW4=>?_;clear hD4 hW4;go_upto_region 2 with fail;try erw[HW3.out]
 try rw[HGLA.out]
 try rw[HD4.out]
 go_wp2_with fail;try rw[HD4.out]
 try erw[HW4.out]
 refine(HNB _ W4 HBB).mono ?_;rintro e W5⟨rfl,hE5⟩;have HX5:=Tn (aa HX4 hE5);refine P4 (aa HEW3 HX5) (ai HRGLA HX5) fun HEW5 HLA5=>?_;clear hE5;refine nV W5 (Tq #[Ti Tl 1,ag skb,Ti Tl 5,zz,zz,zz] 86) fun G W6 HGLB HW6 HXW6 HRGLB=>P4 (aa HEW5 HXW6) (ai HLA5 HXW6) fun HEW6 Q=>Pd Q fun c0 c1 c2 c3 c4 c5=>?_;go_upto_region 3 with fail;try erw[HW6.out]
 try rw[HGLB.out]
 go_wp2_with fail;refine(HPA W6).mono ?_;rintro e W7⟨rfl,hE7⟩;refine P3 (aa HEW6 hE7) (ai Q hE7) (ai HRGLB hE7) fun HEW7 HLA7 HLB7=>?_;clear hE7 c0 c1 c2 c3 c4 c5;refine nV W7 (Tq #[Ti Tl 0,ag keyA,Ti Tl 5] 90) fun GA W8 HGA HW8 HXW8 HRGA=>P3 (aa HEW7 HXW8) (ai HLA7 HXW8) (ai HLB7 HXW8) fun HEW8 HLA8 M=>Pd M fun c0 c1 c2 c3 c4 c5=>?_;go_upto_region 4 with fail;try erw[HW8.out]
 try rw[HGA.out]
 go_wp2_with fail;refine(HPB W8).mono ?_;rintro e W9⟨rfl,hE9⟩;refine P5 (aa HEW8 hE9) (ai HLA8 hE9) (ai M hE9) (ai HRGA hE9) fun HEW9 HLA9 HLB9 HKA9=>?_;clear hE9 c0 c1 c2 c3 c4 c5;refine nV W9 (Tq #[Ti Tl 1,ag keyB,Ti Tl 5] 90) fun GB W10 HGB HW10 al HRGB=>have HEW10:=Tn (aa HEW9 al);nV W10 (Tq #[UH nm] 9) fun GN W11 HGN HW11 X HRGN=>have HEW11:=Tn (aa HEW10 X);nV W11 (Tq #[Ti Tl ser,UH ⟨#[114]⟩,UH ⟨#[]⟩,Ti Tt 4,Tm (Ts ⟨GN,0,U8⟩) 1 1,Ti Tl 0,Ti Tl life,U1 false,Ti Tl 0,zz,zz,Ti Tt 0,Ti Tt 0] 97) fun p o HGC HW12 S f=>P4 (aa HEW11 S) (aa al (aa X S)) fun HEW12 HXC=>PC (ai HLA9 HXC) (ai HLB9 HXC) (ai HKA9 HXC) (ai HRGB (aa X S)) (ai HRGN S) fun HLA12 HLB12 HKA12 HKB12 a9=>?_;go_upto_region 5 with fail;try erw[HW10.out]
 try rw[HGB.out]
 go_upto_region 6 with fail;try rw[HGN.out]
 try erw[HW11.out]
 have ac:GN+1=p:=by rw[<-HGC.out,<-HW11.out,Ud,HGN.out]
 rw[ac];try erw[HW12.out]
 clear ac
 have HSTR:Hid (js o (Ts ⟨GN,0,U8⟩) [aL name]):=Tn (fun i x m=>by
  match i,m with
  |0,m=>cases m;exact⟨_,_,rfl,by rw[HNM.out];exact Uc o GN 0 _ _ _ a9,Qg⟩)
 have HCN0:Hid (kQ (mJ ser name life)):=Tn (agL HNL);have HCC0:Hid (lF o (mJ ser name life) ⟨Ts ⟨GN,0,U8⟩,1,U8,0,U8,0⟩):=Tn ⟨HSTR,UY _,(by show(1:Nat)<=VL;decide),ZO _ _ _ _,UY _,VF _,ZO _ _ _ _,UY _,VF _⟩;have HPRE:Hid (VB UB 27 #[UT #[Ti Tl ser,UH ⟨#[114]⟩,UH ⟨#[]⟩,Ti Tt 4,Tm (Ts ⟨GN,0,U8⟩) 1 1,Ti Tl 0,Ti Tl life,U1 false,Ti Tl 0,zz,zz,Ti Tt 0,Ti Tt 0]] o (wo (mJ ser name life) (fI (mJ ser name life)) o)):=Tn (DD (mJ ser name life) ⟨Ts ⟨GN,0,U8⟩,1,U8,0,U8,0⟩ o HCC0 HCN0 (HKD.ext HEW12));refine Pb f fun c0 c1 c2 c3 c4 c5 c6 c7 c8 c9 c10 c11 c12=>?_;go_wp2_with fail;refine HPRE.out.mono ?_;rintro e ah⟨v13,rfl,U,hno,F⟩;have ab:=vE U hno;have hpl:=acW (mJ ser name life);refine P1 (jy (mJ ser name life) (fI (mJ ser name life))) fun E hpre=>?_;rw[hpre]at ab hpl;have ao:Hid (pO ser name life=E):=Tn hpre;refine P1 (cB (mJ ser name life) (fI (mJ ser name life))) fun pe hpe=>?_;rw[hpe];have HPE:=Tn hpe;obtain⟨qa,qc,N⟩:=ab.form;subst N;refine P1 E.length fun qn hqn=>?_;rw[hqn]at ab⊢;refine PJ ab hpl (aa HEW12 F) (ai HLA12 F) (ai HLB12 F) (ai HKA12 F) (ai HKB12 F) (ai a9 F) (ai f F) fun HV13 HPL HEW13 y HLB13 HKA13 HKB13 HGN13 HGC13=>?_;clear U hno hpre hpe hqn ab hpl F HPRE HCC0 c0 c1 c2 c3 c4 c5 c6 c7 c8 c9 c10 c11 c12;refine P1 (pK Ih E) fun PA hPA=>P1 (pK Ir E) fun PB hPB=>?_;obtain⟨ja,hja⟩:∃k:Int,(if dz E then 0 else 1)=k:=⟨_,rfl⟩;refine P3 hPA hPB hja fun HPA1 HPB1 HJA=>have h1:=HADA.out E (Tm qa qn qc) ah HV13 (by have:=HPL.out;omega);have h2:=fun W(hE:aq ah W)=>HADB.out E (Tm qa qn qc) W (HV13.ext hE) (by have:=HPL.out;omega);?_;rw[hPA,hja]at h1;rw[hPB,hja]at h2;unfold qh at h1 h2;refine P4 h1 h2 fun HA1 HB1=>?_;clear h1 h2 hPA hPB hja;refine Pd y fun c0 c1 c2 c3 c4 c5=>?_;go_wp2_with fail;refine HA1.out.mono ?_;rintro e W14⟨i1,k1,d1,ur1,un1,uq1,rfl,hE14⟩;refine P4 hE14 (aa HEW13 hE14) fun HX14 HEW14=>?_;clear hE14 c0 c1 c2 c3 c4 c5;refine nV W14 (Tq #[Ti Tl i1,ag k1,Ti Tl d1,zz,zz,Tm ur1 un1 uq1] 86) fun G20 W15 HG20 HW15 HXW15 HRG20=>have HEW15:=Tn (aa HEW14 HXW15);nV W15 (Tq #[Ti Tl PA.log,Ti Tl PA.at_,ag PA.leaf.1,ag PA.leaf.2,ag PA.sig.e,ag PA.sig.s] 101) fun a6 an HG21 HW16 HXW16 HRG21=>P4 (aa HEW15 HXW16) (aa HX14 (aa HXW15 HXW16)) fun HEW16 HX16=>have z:=Tn (ai HLB13 HX16);Pd z fun c0 c1 c2 c3 c4 c5=>?_;go_upto_region 8 with fail;try rw[HG20.out]
 try erw[HW15.out]
 have ac:G20+1=a6:=by rw[<-HG21.out,<-HW15.out,Ud,HG20.out]
 rw[ac];try erw[HW16.out]
 clear ac;go_wp2_with fail;refine(HB1 an HX16).mono ?_;rintro e W17⟨i2,k2,d2,ur2,un2,uq2,rfl,hE17⟩;refine P4 hE17 (aa HEW16 hE17) fun HX17 HEW17=>?_;clear hE17 c0 c1 c2 c3 c4 c5;refine nV W17 (Tq #[Ti Tl i2,ag k2,Ti Tl d2,zz,zz,Tm ur2 un2 uq2] 86) fun G23 W18 HG23 HW18 HXW18 HRG23=>have HEW18:=Tn (aa HEW17 HXW18);nV W18 (Tq #[Ti Tl PB.log,Ti Tl PB.at_,ag PB.leaf.1,ag PB.leaf.2,ag PB.sig.e,ag PB.sig.s] 101) fun a7 u HG24 HW19 HXW19 B=>P4 (aa HEW18 HXW19) (aa HX17 (aa HXW18 HXW19)) fun HEW19 HX19=>P4 (aa HX16 HX19) (ai HRG21 HX19) fun J R=>have HGC19:=Tn (ai HGC13 J);?_;go_upto_region 9 with fail;try rw[HG23.out]
 try erw[HW18.out]
 have ac:G23+1=a7:=by rw[<-HG24.out,<-HW18.out,Ud,HG23.out]
 rw[ac];try erw[HW19.out]
 clear ac;refine Pd R fun a0 a1 a2 a3 a4 a5=>Pd B fun b0 b1 b2 b3 b4 b5=>nV u (Tq #[Ti Tl PA.log,Ti Tl PA.at_,ag PA.leaf.1,ag PA.leaf.2,ag PA.sig.e,ag PA.sig.s,Ti Tl PB.log,Ti Tl PB.at_,ag PB.leaf.1,ag PB.leaf.2,ag PB.sig.e,ag PB.sig.s] 101) fun Y W20 HGP HW20 K HRGP=>PC (aa HEW19 K) (ai HGC19 K) (ai HGN13 (aa J K)) (ai HKA13 (aa J K)) (ai HKB13 (aa J K)) fun HEW20 a8 HGN20 HKA20 HKB20=>have e10:=Uc W20 p 10 _ _ _ a8;have fz10:=VQ W20 p 10 _ _ a8;have j:=Tn (Lt a8 (Tm (Ts ⟨Y,0,U8⟩) 2 2));P1 (W20.setCell ⟨p,10,U8⟩ (Tm (Ts ⟨Y,0,U8⟩) 2 2)) fun b hW21=>?_;rw[hW21]at j;have HW21:=Tn hW21;clear hW21
 have HNE:Hid (GN≠p/\Y≠p/\GA≠p/\GB≠p/\w.heap.size<=p):=Tn (by
  have h1:=(UE.1 a9).1;have h2:=(UE.1 HRGN).1;have A:=(UE.1 HGC19).1;have h4:=HGP.out;have h5:=(UE.1 HKA9).1;have h6:=(UE.1 HRGB).1;have h7:=HGC.out;have h8:=HEW11.out.size;have h9:=X.out.size;have h10:=al.out.size
  omega)
 have hw20:=HW20.out;have hgp:=HGP.out;go_upto_region 10 with fail;try erw[HW21.out]
 clear hw20 hgp a0 a1 a2 a3 a4 a5 b0 b1 b2 b3 b4 b5 e10 fz10;have HEW21:Hid (aq w b):=Tn (HEW20.trans (j.2.below HEW20.size (fun i hi=>by have:=HNE.out;have e':i=p:=hi;omega)));refine P5 (aM HGN20 j.2 HNE.1) (aM HRGP j.2 HNE.2.1) (aM HKA20 j.2 HNE.2.2.1) (aM HKB20 j.2 HNE.2.2.2.1) fun HGN21 d HKA21 HKB21=>?_;have hpr:(fu ser name life).proms=[PA,PB]:=by
  unfold fu;dsimp only;rw[ao.out,HPA1.out,HPB1.out]
 have HPRM:Hid (Kl b (Ts ⟨Y,0,U8⟩) (fu ser name life).proms):=Tn (by
  rw[hpr];intro i x m;match i,m with
  |0,m=>cases m;exact⟨_,_,rfl,Uc b Y 0 _ _ _ d,Uc b Y 1 _ _ _ d,Uc b Y 2 _ _ _ d,Uc b Y 3 _ _ _ d,Uc b Y 4 _ _ _ d,Uc b Y 5 _ _ _ d⟩
  |1,m=>cases m;exact⟨_,_,rfl,Uc b Y 6 _ _ _ d,Uc b Y 7 _ _ _ d,Uc b Y 8 _ _ _ d,Uc b Y 9 _ _ _ d,Uc b Y 10 _ _ _ d,Uc b Y 11 _ _ _ d⟩)
 have HSTX:Hid (js b (Ts ⟨GN,0,U8⟩) [aL name]):=Tn (fun i x m=>by
  match i,m with
  |0,m=>cases m;exact⟨_,_,rfl,by rw[HNM.out];exact Uc b GN 0 _ _ _ HGN21,Qg⟩)
 have HCX:Hid (lF b (fu ser name life) ⟨Ts ⟨GN,0,U8⟩,1,U8,0,Ts ⟨Y,0,U8⟩,2⟩):=Tn ⟨HSTX,UY _,(by show(1:Nat)<=VL;decide),ZO _ _ _ _,UY _,VF _,HPRM,UY _,(by show(2:Nat)<=VL;decide)⟩;have HBODY:Hid (VB UB 29 #[UT #[Ti Tl ser,UH ⟨#[114]⟩,UH ⟨#[]⟩,Ti Tt 4,Tm (Ts ⟨GN,0,U8⟩) 1 1,Ti Tl 0,Ti Tl life,U1 false,Ti Tl 0,zz,Tm (Ts ⟨Y,0,U8⟩) 2 2,Ti Tt 0,Ti Tt 0]] b (wo (fu ser name life) (du (fu ser name life)) b)):=Tn (Lj (fu ser name life) ⟨Ts ⟨GN,0,U8⟩,1,U8,0,Ts ⟨Y,0,U8⟩,2⟩ b HCX (agP HNL) (HKD.ext HEW21));have q:=j.out.1;refine Pb q fun c0 c1 c2 c3 c4 c5 c6 c7 c8 c9 c10 c11 c12=>?_;clear hpr q;go_wp2_with fail;refine HBODY.out.mono ?_;rintro e W22⟨vb,rfl,U,hno,bb⟩;have hvb:=vE U hno;have hbl:=Mj (fu ser name life);refine P1 (jy (fu ser name life) (du (fu ser name life))) fun bs hbs=>P1 (cB (fu ser name life) (du (fu ser name life))) fun be hbe=>?_;rw[hbs]at hvb hbl;rw[hbe];refine P4 hbs hbe fun HBS HBE=>?_;obtain⟨ba,bc,N⟩:=hvb.form;subst N;refine P1 bs.length fun bn hbn=>?_;rw[hbn]at hvb⊢;refine PC hvb hbl (aa HEW21 bb) (ai HKA21 bb) (ai HKB21 bb) fun HVB HBL HEW22 HKA22 HKB22=>?_;clear U hno hvb hbl hbs hbe hbn bb c0 c1 c2 c3 c4 c5 c6 c7 c8 c9 c10 c11 c12;go_upto_region 11 with fail;refine aG (fun w'=>aq W22 w') P0 ?_;repeat
  (first|refine az rfl rfl rfl rfl ?_|refine aF rfl rfl rfl rfl ?_|refine aw rfl ?_|refine aj rfl rfl rfl rfl rfl ?_|((first|refine av (v:=?_) rfl rfl (fun hb w' l=>?_) ?_|refine ar (v:=?_) rfl rfl rfl (fun hb1 hb w' l=>?_) ?_|refine ax (v:=?_) rfl (fun w' l=>?_) ?_);rotate_left;(focus(have f0:=l;unfold ak;go_simp;first|exact aD l))))
  simp only[Ua,P7]
 refine aA fun WZ hEZ=>P5 (aa HEW22 hEZ) (HVB.ext hEZ) (ai HKA22 hEZ) (ai HKB22 hEZ) fun HEZ HVZ HKA HKB=>?_;clear hEZ;obtain⟨ok,hok⟩:∃k,(pe==0&&ja==0&&be==0)=k:=⟨_,rfl⟩;rw[hok]
 have HOK:Hid (ok=ep ser name life/\(ep ser name life=true->dz E=true)):=Tn (by
  rw[LB,HPE.out,ao.out,HBE.out,<-hok,<-HJA.out]
  cases dz E<;>simp)
 clear hok;go_wp2_with fail;refine(WV (n:=0)).1 ?_;refine bu (r:=U8) 8 [] [cT,cT,cT,cT,cT,cT,cT,cT] [Ts 114,Ts 115,Ts 116,Ts 117,Ts 118,Ts 6,Ts 7,Ts 8] Pg Pg Pg [aq WZ] (OY yk) [Hg ba bn bc keyA keyB ok] (OY (by repeat first|exact Gl|refine EC ?_|refine Gx ?_|refine Ek (fun v w w'⟨g,t9,L⟩hE=>⟨g,t9,ai L hE⟩) ?_)) ?k0 ?steps ?fin
 case k0=>exact ap WZ
 case steps=>
  refine⟨sT,sT,sT,?_,sT,sT,?_,sT,trivial⟩
  .intro s vs w' hlo hhi hl hK hd;obtain rfl:s=0:=Ph;clear hlo hhi;have HK0:Hid (aq WZ w'):=hK;clear hK;simp only[aK,Ua,PV];(try rw[dq hd 1 Pg rfl]);(try rw[dq hd 2 Pg rfl]);exact Ug
  intro s vs w' hlo hhi hl hK hd;obtain rfl:s=0:=Ph;clear hlo hhi;have HK0:Hid (aq WZ w'):=hK;clear hK;have h_3:=hd 3 Pg;simp only[PW,Hg]at h_3;refine UX h_3 fun g h_3=>have hv_3:=h_3.1;have H_3_0:=Tn h_3.2;?_;clear h_3;simp only[aK,Ua,PV];(try rw[dq hd 0 Pg rfl]);(try rw[dq hd 1 Pg rfl]);(try rw[dq hd 2 Pg rfl]);(try rw[dq hd 5 Pg rfl]);(try rw[hv_3]);clear hv_3;have HL:=Tn hl;clear hd hl;unfold ak;go_simp;exact⟨⟨g,rfl,H_3_0⟩,P0⟩
 intro vs w' hl hK hd;have HK0:Hid (aq WZ w'):=hK;clear hK;have h_5:=hd 5 Pi;simp only[VJ,PW,Hg]at h_5;have h_6:=hd 6 Pi;simp only[VJ,PW,Hg]at h_6;refine UX h_6 fun g h_6=>have hv_6:=h_6.1;have H_6_0:=Tn h_6.2;?_;clear h_6;have h_7:=hd 7 Pi;simp only[VJ,PW,Hg]at h_7;simp only[aK,Ua,PV];rw[h_5,hv_6,h_7];clear h_5 hv_6 h_7;iterate 5 (try generalize vs.getD _ VM=xq)
 clear hd hl;refine P4 (aa HEZ HK0) (HVZ.ext HK0) fun HEF HVF=>?_
 have HKL:Hid (cr 3 aeF w' (Ts ⟨g,0,U8⟩) iw):=Tn (by
  have am:iw=[⟨0,keyA,5⟩,⟨1,keyB,5⟩]:=by
   rw[<-HKYA.out,<-HKYB.out,<-HSA.out,<-HSB.out];rfl
  rw[am];intro i x m;match i,m with
  |0,m=>cases m;exact⟨_,_,rfl,Uc w' g 0 _ _ _ H_6_0,Uc w' g 1 _ _ _ H_6_0,Uc w' g 2 _ _ _ H_6_0⟩
  |1,m=>cases m;exact⟨_,_,rfl,Uc w' g 3 _ _ _ H_6_0,Uc w' g 4 _ _ _ H_6_0,Uc w' g 5 _ _ _ H_6_0⟩)
 have HMB:Hid (ep ser name life=true->bs=fB ser name life):=Tn (fun h=>by
  have hb:=HOK.out.2 h;rw[<-ao.out]at hb;rw[<-HBS.out,Oy hb]
  rfl)
 go_wp2;refine VC (v:=UW #[Tm ba bn bc,Tm (Ts ⟨g,0,U8⟩) 2 2,U1 ok]) (by simp[Vo,results8,go_sem]) rfl ?_;rw[HOK.out.1];exact⟨_,_,_,_,_,bs,rfl,HEF,HVF,VG HBL Pi,HMB,HKL,UY _,Pi⟩
end
end
def pX{b:au}{c}(h:cz b= .ok c):bG c=0:=by
 unfold cz at h;cases S:dh 8 b with
 |error x=>rw[S]at h;cases h
 |ok p=>
  obtain⟨y,rest⟩:=p;rw[S]at h;dsimp only at h;split at h
  .cases h
  split at h
  .cases h
  split at h
  .next h1=>cases h;exact h1
  cases h
def yE{c}(h:bG c=0):wrap64 (c.until_-c.from_)=c.until_-c.from_:=by
 obtain⟨_,_,h1,d,_⟩:=ji (fw h).1;have a:=jf.1 h1;have b:=jf.1 d;unfold wrap64;omega
def ah8{f t C}{y:List Dv}(u:ef [jM]=y)(d:xG f ra t rc na C nc [jM] y)(E:xB f){b:au}(c l j W)(g:aq f W)(S:cz b= .ok c)(H:kQ c)(p:c.names.length<=j)(K:j<=VL)(z:js W l (c.names.map aL)):
  VB UB 64 #[UT #[Tm ra t rc,Tm na C nc],UT #[Ti Tl 0,Tm l c.names.length j,ag c.key,Ti Tl (wrap64 (c.until_-c.from_))]] W (fun e D=>∃r a m q,e=UO (UW #[UT #[U1 (nF c).1,Ti Tl r,Tm a m q],Ti Tl (nF c).2])/\aq W D):=by
 have o:t<=1000:=by have h:=d.l1;have e:([jM]:List b7).length=1:=rfl;omega
 have h:=tf [jM] y (tK c) ra na rc t nc C l j W d.l1 d.l2 d.l3 (d.ru.ext g) o IG d.n1 d.n2 d.n3 (d.no.ext g) (by show(c.names.map ag5).length<=j;rw[VR];exact p) K z (fun s A=>by
  obtain⟨x,G,rfl⟩:=Wl.1 A;have:=H.nms x G;show x.toArray.size<=_
  rw[WG]
  omega) (E.ext g)
 have F:xZ (tK c) l j=UT #[Ti Tl 0,Tm l c.names.length j,ag c.key,Ti Tl (wrap64 (c.until_-c.from_))]:=by
  rw[yE (pX S)];show UT #[Ti Tl 0,Tm l (c.names.map ag5).length j,Ti Tt (c.key:Int),Ti Tl (c.until_-c.from_)]=_
  rw[VR]
 rw[F]at h;refine h.mono ?_;rintro e D⟨a,q,rfl,_,_,_,_,B⟩;unfold nF;rw[u];exact⟨_,a,_,q,rfl,B⟩
def ae7{b:List Ky}(h:∀k∈b,k∈iw):∀k∈b,k.key<2^64:=fun k o=>by
 have m:∀k∈iw,k.key<2^64:=Pj;exact m k (h k o)
def aeV{f B}{x:List Dv}(j:ef [jM]=x)(G:xG f ra y rc na B nc [jM] x)(C:xB f)(H:aU f){b:au}{A}(hb:aJ f (Tm ba A bc) b)(u:b.length<=1000000){d:List Ky}{m kc}(hn:d.length=n)(q:n<=1000000)(s:n<=kc)(t:kc<=VL)(o:cr 3 aeF f m d)(l:∀k∈d,k∈iw)(W)(g:aq f W):
  VB UB 18 #[Tm ba A bc,Tm m n kc,UT #[Tm ra y rc,Tm na B nc]] W (bM (Ti Tl (ow nF d b)) W):=
 IP d m n kc _ _ b _ nF W (H.ext g) (hb.ext g) u hn q s t (o.ext g) (ae7 l) (fun c D E I r S F p K z=>ah8 j G C c D E I (aa g r) S F p K z)
def ve(s x ses me)(b:au)(ser:Int)(ba bn bc ka kn kc)(t1 t2:UV)(w)(H:aU w)(hb:aJ w (Tm ba bn bc) b)(al:b.length<=1000000)(N:∀W,aq w W->VB UB 18 #[Tm ba bn bc,Tm ka kn kc,UT #[t1,t2]] W (bM (Ti Tl me) W))(P:me=0->∃c,cz b= .ok c/\c.serial=ser)(hC:dQ w s x)(m:s.share.x<2^64)(ad:s.done.length<=1000000)(ah:s.store.safe.length+s.store.opn.length<=100000000):
  VB UB 9 #[eK s x,Ti Tl ses,Tm ba bn bc,Tm ka kn kc,UT #[t1,t2]] w (pU (bA s ses me ⟨ses,ser,bF b⟩) (bN s ⟨ses,ser,bF b⟩) (cE s.share ses b) w):=by
 unfold eK;refine P1 w.heap.size fun D C=>have M:=Tn C;P1 (dX w [Tq #[Ti Tl s.share.id,ag s.share.x,U1 s.bad,U1 s.up,Tm x.da s.done.length x.dc,x.u,x.v] 44,Tq #[Ti Tl ses] 3,Tq #[Tm ba bn bc] 37,Tq #[Tm ka kn kc] 50,Tq #[t1,t2] 27,Tq #[Ti Tl 0,Ti Tt 0,U1 false,U1 false,zz,zz,zz] 44,Tq #[Ti Tl 0,Ti Tt 0] 39]) fun f No=>have d:=No;?_;simp only[dX]at d;refine P8 (bZ No) (ei No C) (bW No C 1 rfl) (bW No C 2 rfl) (bW No C 3 rfl) (bW No C 4 rfl) (bW No C 5 rfl) (bW No C 6 rfl) fun z E HP1 HP2 HP3 HP4 HP5 HP6=>?_;clear No;have L:=Tn (pg s x true 31 #[UK (Ts ⟨D+1,0,U8⟩),UK (Ts ⟨D+2,0,U8⟩),UK (Ts ⟨D+3,0,U8⟩),UK (Ts ⟨D+4,0,U8⟩)] _ _ _ f (hC.ext z) Ph (Cu s x ses me b ser (Tm ba bn bc) (Tm ka kn kc) t1 t2 (D+1) (D+2) (D+3) (D+4) f (H.ext z) (hb.ext z) al HP1 HP2 HP3 HP4 (fun W g=>N W (aa z g)) P (hC.ext z) m ad ah));rw[JH]at L;unfold eK at L;clear H hb al N P hC m ad ah;refine P1 (bA s ses me ⟨ses,ser,bF b⟩) fun K H=>P1 (bN s ⟨ses,ser,bF b⟩) fun s2 ac=>P1 (cE s.share ses b) fun c2 Q=>?_;rw[H,ac,Q]at L;rw[H,ac,Q];clear H ac Q;refine PX E fun c0 c1 c2 c3 c4 c5 c6=>?_;go_enter func9,ntmps9;go_upto_region 1 with fail;try rw[d]
 try rw[C]
 clear d C;go_wp2_with fail;refine L.out.mono ?_;rintro e t⟨q,R,J⟩;refine P3 (aa z q) (ai HP5 q) (ai HP6 q) fun F HQ Z=>?_;clear c0 c1 c2 c3 c4 c5 c6 q L;by_cases o:K=0
 .obtain⟨x',rfl,ab⟩:=J o;refine P4 o ab fun HK HC'=>?_;obtain⟨⟨si,sx⟩,bad,up,done,sto⟩:=s2;obtain⟨da,dc,u,v⟩:=x';obtain⟨ua,uc,va,vc,X,hv⟩:=ab.sto.form;dsimp only at X hv;subst X hv;unfold eK;dsimp only;clear R J o ab;(iterate 7 go_simp;go_step);refine WS rfl _ _ _ rfl (D+5) #[Ti Tl si,ag sx,U1 bad,U1 up,Tm da done.length dc,Tm ua sto.safe.length uc,Tm va sto.opn.length vc] rfl rfl 44 _ HQ Pg Q8 Q6 ?_;refine P1 (t.setRow (D+5) #[Ti Tl si,ag sx,U1 bad,U1 up,Tm da done.length dc,Tm ua sto.safe.length uc,Tm va sto.opn.length vc]) fun I Y=>?_;rw[Y];have j:Hid (I.heap[D+5]?=Ts (Tq #[Ti Tl si,ag sx,U1 bad,U1 up,Tm da done.length dc,Tm ua sto.safe.length uc,Tm va sto.opn.length vc] 44 (0,0))):=Tn Sf;have p:Hid (Fr (fun k=>k=D+5) t I):=Tn SU;clear Y;refine PX j fun q0 q1 q2 V S U T=>have G:=Tn (aM Z p Ph);WS rfl _ _ _ rfl (D+6) #[Ti Tl c2.id,ag c2.x] rfl rfl 39 _ G Pg Q8 Q6 ?_;refine P1 (I.setRow (D+6) #[Ti Tl c2.id,ag c2.x]) fun O A=>?_;rw[A];have B:Hid (O.heap[D+6]?=Ts (Tq #[Ti Tl c2.id,ag c2.x] 39 (0,0))):=Tn X4;have r:Hid (Fr (fun k=>k=D+6) I O):=Tn (by rw[<-A];exact bH _ _ _);clear A;refine PM B fun r0 r1=>have l:=Tn (aM j r Ph);?_;clear q0 q1 q2 V S U T;refine PX l fun q0 q1 q2 V S U T=>?_;go_wp2;exact VC (v:=UW #[UT #[Ti Tl si,ag sx,U1 bad,U1 up,Tm da done.length dc,Tm ua sto.safe.length uc,Tm va sto.opn.length vc],UT #[Ti Tl c2.id,ag c2.x],Ti Tl 0]) Rb rfl ⟨F.trans ((p.below F.size (fun k o=>SC)).trans (r.below (n:=w.heap.size) (VG F.size p.size) (fun k o=>SC))),fun h=>absurd HK.out h,fun _=>⟨_,rfl,(HC'.off p (ej (sx:=0) HQ)).off r (nq (y:=0) G)⟩⟩
 have he:=R o;subst he;have HK:=Tn o;clear R J o;(iterate 7 go_simp;go_step);refine WS rfl _ _ _ rfl (D+5) #[Ti Tl 0,Ti Tt 0,U1 false,U1 false,zz,zz,zz] rfl rfl 44 _ HQ Pg Q8 Pu ?_;refine P1 (t.setRow (D+5) #[Ti Tl 0,Ti Tt 0,U1 false,U1 false,zz,zz,zz]) fun I Y=>?_;rw[Y];have j:Hid (I.heap[D+5]?=Ts (Tq #[Ti Tl 0,Ti Tt 0,U1 false,U1 false,zz,zz,zz] 44 (0,0))):=Tn Sf;have p:Hid (Fr (fun k=>k=D+5) t I):=Tn SU;clear Y;refine PX j fun q0 q1 q2 V S U T=>have G:=Tn (aM Z p Ph);WS rfl _ _ _ rfl (D+6) #[Ti Tl 0,Ti Tt 0] rfl rfl 39 _ G Pg Q8 Pu ?_;refine P1 (I.setRow (D+6) #[Ti Tl 0,Ti Tt 0]) fun O A=>?_;rw[A];have B:Hid (O.heap[D+6]?=Ts (Tq #[Ti Tl 0,Ti Tt 0] 39 (0,0))):=Tn X4;have r:Hid (Fr (fun k=>k=D+6) I O):=Tn (by rw[<-A];exact bH _ _ _);clear A;refine PM B fun r0 r1=>have l:=Tn (aM j r Ph);?_;clear q0 q1 q2 V S U T;refine PX l fun q0 q1 q2 V S U T=>?_;go_wp2;exact VC (v:=UW #[UT #[Ti Tl 0,Ti Tt 0,U1 false,U1 false,zz,zz,zz],UT #[Ti Tl 0,Ti Tt 0],Ti Tl K]) Rb rfl ⟨F.trans ((p.below F.size (fun k o=>SC)).trans (r.below (n:=w.heap.size) (VG F.size p.size) (fun k o=>SC))),fun _=>rfl,fun h=>absurd h HK⟩
structure Ej(s:dp):Prop where
 x:s.share.x<2^64
 d:s.done.length<=1000000
 w:s.store.safe.length+s.store.opn.length<=100000000
def ajE:Ej oy:=⟨Pj,Pj,Pj⟩
def aiS:Ej qk:=⟨Pj,Pj,Pj⟩
def ai2:Ej JS:=⟨Pj,Pj,Pj⟩
def ajC:Ej EG:=⟨Pj,Pj,Pj⟩
def ajI:Ej GR:=⟨Pj,Pj,Pj⟩
def Ji:fk qk true (Bb iC qk 7 jt [Mi])=0:=Pj
def aiQ:bA qk 8 161 (dn 8 2 Mz)=161:=Pj
def ai6:bA qk 8 251 (dn 8 1 jt)=251:=Pj
def aiZ:bA JS 8 0 (dn 8 1 jt)=221:=Pj
def aiO:fk qk true (fg qk.store (min 0 qk.store.opn.length))=0:=Pj
def ai5:fk JS false (qM JS)=0:=Pj
def afF{name:au}(h:ep ser name life=true):me=0->∃c,cz (fB ser name life)= .ok c/\c.serial=ser:=fun _=>⟨_,(oB h).1,rfl⟩
def mD{C:List Dv}(p:ef [jM]=C)(K:xG W ra D rc na E nc [jM] C)(G:xB W)(H:aU W){b:au}{z}(hb:aJ W (Tm ba z bc) b)(j:b.length<=1000000){f:List Ky}{r kc}(hn:f.length=n)(t:n<=1000000)(u:n<=kc)(y:kc<=VL)(o:cr 3 aeF W r f)(q:∀k∈f,k∈iw){s x}(J:dQ W s x)(B:Ej s){k F c2}(m:ow nF f b=me)(l:me=0->∃c,cz b= .ok c/\c.serial=ser)(h1:bA s ses me ⟨ses,ser,bF b⟩=k)(I:bN s ⟨ses,ser,bF b⟩=F)(A:cE s.share ses b=c2):
  VB UB 9 #[eK s x,Ti Tl ses,Tm ba z bc,Tm r n kc,UT #[Tm ra D rc,Tm na E nc]] W (pU k F c2 W):=by
 subst h1 I A m;exact ve s x ses _ b ser ba z bc r n kc _ _ W H hb j (fun L g=>aeV p K G H hb j hn t u y o q L g) l J B.x B.d B.w
def NL{s x}(u:dQ W s x)(t:Ej s){b:au}{l}(hb:aJ W (Tm ba l bc) b)(m:b.length<=1000000){cw}(f:mC W cw pa pc){cm:List bq}{ma mn mc}(g:cm.length=mn)(q:mn<=mc)(j:mc<=9223372036854775807)(c:mn<=1000000)(o:cr 2 eF W ma cm){k c2}{r:UV}(p:pB cw pa pc=r)(h1:fk s true (Bb cw s ses b cm)=k)(A:jG cw s.share ses b cm=c2):
  VB UB 12 #[r,eK s x,Ti Tl ses,Tm ba l bc,Tm ma mn mc] W (pU k s c2 W):=by
 subst g h1 A p;exact JY s x ses b ba l bc cw pa pc cm ma mc W hb m f q j c o u t.x t.d
def IS{s x}(f:dQ W s x)(g:Ej s){keep k b}(h1:fk s true (fg s.store (min keep s.store.opn.length))=k)(c:gB s keep=b):VB UB 13 #[eK s x,Ti Tl keep] W (yT k b W):=by
 subst h1 c;exact F8 s x keep W f g.d
def NB{s x}(g:dQ W s x)(b:Ej s){k f}(h1:fk s false (qM s)=k)(c:ju s=f):VB UB 14 #[eK s x] W (yT k f W):=by
 subst h1 c;exact KV s x W g b.d b.w
def Kf{s x}(f:dQ W s x)(g:Ej s){k b}(h1:bJ s=k)(c:{s with bad:=true}=b):VB UB 16 #[eK s x] W (yT k b W):=by
 subst h1 c;exact Ay s x W f g.d
def A6(c:ff):Bool×Int:=((fH [] [] (tK c)).1.allow,(fH [] [] (tK c)).2)
def ahO{f}(A:xB f){b:au}(c j d W)(g:aq f W)(S:cz b= .ok c)(y:kQ c)(p:c.names.length<=d)(K:d<=VL)(z:js W j (c.names.map aL)):
  VB UB 64 #[UT #[zz,zz],UT #[Ti Tl 0,Tm j c.names.length d,ag c.key,Ti Tl (wrap64 (c.until_-c.from_))]] W (fun e t=>∃r a m q,e=UO (UW #[UT #[U1 (A6 c).1,Ti Tl r,Tm a m q],Ti Tl (A6 c).2])/\aq W t):=by
 have h:=tf [] [] (tK c) U8 U8 0 0 0 0 j d W rfl (UY _) Pi (ZO _ _ _ _) Pi (fun r u=>by cases u) rfl (UY _) Pi (ZO _ _ _ _) (by show(c.names.map ag5).length<=d;rw[VR];exact p) K z (fun s o=>by
  obtain⟨x,B,rfl⟩:=Wl.1 o;have:=y.nms x B;show x.toArray.size<=_
  rw[WG]
  omega) (A.ext g)
 have C:xZ (tK c) j d=UT #[Ti Tl 0,Tm j c.names.length d,ag c.key,Ti Tl (wrap64 (c.until_-c.from_))]:=by
  rw[yE (pX S)];show UT #[Ti Tl 0,Tm j (c.names.map ag5).length d,Ti Tt (c.key:Int),Ti Tl (c.until_-c.from_)]=_
  rw[VR]
 rw[C]at h;refine h.mono ?_;rintro e t⟨a,q,rfl,_,_,_,_,l⟩;exact⟨_,a,_,q,rfl,l⟩
def On(r:xB W)(H:aU W){b:au}{l}(hb:aJ W (Tm ba l bc) b)(f:b.length<=1000000){s x}(y:dQ W s x)(m:Ej s){k q c2}(j:∃c,cz b= .ok c/\c.serial=ser)(h1:∀me,bA s ses me ⟨ses,ser,bF b⟩=k)(t:bN s ⟨ses,ser,bF b⟩=q)(A:cE s.share ses b=c2):
  VB UB 9 #[eK s x,Ti Tl ses,Tm ba l bc,zz,UT #[zz,zz]] W (pU k q c2 W):=by
 subst t A;rw[<-h1 (ow A6 [] b)];exact ve s x ses _ b ser ba l bc U8 0 0 _ _ W H hb f (fun E g=>IP [] U8 0 0 _ _ b _ A6 E (H.ext g) (hb.ext g) f rfl Pi Pi Pi (ZO _ _ _ _) (fun k o=>Zbz) (fun c u B I D S C p K z=>ahO r c u B I (aa g D) S C p K z)) (fun _=>j) y m.x m.d m.w
def Bn{s:dp}(h:s.bad=true)(ses me d):bA s ses me d=bA s ses 0 d:=by unfold bA;simp[h]
structure ajL(B1 B2 B3:au)(SX SZ SW SB:dp)(cm pt:bq):Prop where
 c1:bA oy 7 (ow nF iw B1) ⟨7,1,bF B1⟩=0
 s1:bN oy ⟨7,1,bF B1⟩=SX
 h1:cE oy.share 7 B1=cm
 p:fk SX true (Bb iC SX 7 B1 [cm])=0
 ps:jG iC SX.share 7 B1 [cm]=pt
 i:bA SX 8 (ow nF iw B3) ⟨8,2,bF B3⟩=161
 j:bA SX 8 (ow nF (iw.take 1) B1) ⟨8,1,bF B1⟩=251
 k:fk SX true (fg SX.store (min 0 SX.store.opn.length))=0
 kz:gB SX 0=SZ
 m:bA SZ 8 (ow nF iw B1) ⟨8,1,bF B1⟩=221
 n:fk SZ false (qM SZ)=0
 nw:ju SZ=SW
 o:bJ oy=0
 ob:{oy with bad:=true}=SB
 pp:∀me,bA SB 8 me ⟨8,2,bF B3⟩=0
 q:bA SW 7 (ow nF iw B2) ⟨7,1,bF B2⟩=250
 g1:∃c,cz B1= .ok c/\c.serial=1
 g2:∃c,cz B2= .ok c/\c.serial=1
 g3:∃c,cz B3= .ok c/\c.serial=2
 zx:Ej SX
 zz:Ej SZ
 zw:Ej SW
 zb:Ej SB
 dx:SX.done=[⟨7,1,bF B1⟩]
 dw:SW.done=[⟨7,1,bF B1⟩]
 ck:gJ iC B1 [cm] pt=0
 cw:bJ SW=0
 my:ow nF iw B1=0
 px:pt.x<2^64
 cx:cm.x<2^64
def aaE:ajL (fB 1 OM 9) (fB 1 abV 9) (fB 2 afL 9) qk JS EG GR Mi (jG iC qk.share 7 jt [Mi]) where
 c1:=KC
 s1:=rfl
 h1:=rfl
 p:=Ji
 ps:=rfl
 i:=by rw[aiT];exact aiQ
 j:=by rw[aiW];exact ai6
 k:=aiO
 kz:=rfl
 m:=by rw[ahJ];exact aiZ
 n:=ai5
 nw:=rfl
 o:=ah2
 ob:=rfl
 pp:=fun me=>by rw[Bn rfl];exact afZ
 q:=N4
 g1:=⟨_,(oB aeG).1,rfl⟩
 g2:=⟨_,(oB aeO).1,rfl⟩
 g3:=⟨_,(oB ad5).1,rfl⟩
 zx:=aiS
 zz:=ai2
 zw:=ajC
 zb:=ajI
 dx:=ajF.2.1
 dw:=ahU.2.1
 ck:=Oq
 cw:=ahU.1
 my:=ahJ
 px:=Pj
 cx:=Pj
def afA:∃b c d g m f j cm l,ajL b c d g m f j cm l/\fB 1 OM 9=b/\fB 1 abV 9=c/\fB 2 afL 9=d:=⟨_,_,_,_,_,_,_,_,_,aaE,rfl,rfl,rfl⟩
def D0{s}(h:kr s=true):s.x<2^64:=by
 unfold kr at h;simp only[V7,decide_eq_true_eq]at h;have:=h.2.2;unfold Rp at this;omega
def ig.sz{s d}(h:ig s d):s.share.x<2^64/\s.done.length<=1000000/\s.store.safe.length+s.store.opn.length<=100000000:=by
 cases X:s.up with
 |true=>
  have b:=(mr X).1 h.check;refine⟨D0 b.share,?_,by have:=b.wal;omega⟩;have f:=b.told;unfold cY at f;obtain⟨t,e,p⟩:=jU _ _ _ f;have J:=jN (bk s.store);rw[dg]at J;have:=b.wal;rw[e,Vd,p,VR];omega
 |false=>
  obtain⟨h1,c,A⟩:=(oD X).1 h.check;exact⟨D0 c,by rw[A];simp,Ph⟩
def Fx{s d}(h:bA s ses me d=0):0<=ses/\ses<=1099511627776:=by
 unfold bA at h;split at h
 .next h1=>exact absurd h h1
 split at h
 .cases h
 split at h
 .cases h
 next h1=>omega
def ig.com{s b}{name:au}(h:ig s b)(K:ep ser name 9=true)(c:bA s ses me (dn ses ser (fB ser name 9))=0):ig (bN s (dn ses ser (fB ser name 9))) (b++[dn ses ser (fB ser name 9)]):=by
 obtain⟨L,h1⟩:=Fx c;exact h.commit (OH K L h1) c
def M9{s b}(h:ig s b)(o:(if bJ s≠0 then bJ s else if s.up≠true then 221 else fg s.store (min 0 s.store.opn.length))=0):ig (gB s 0) b:=by
 rw[if_neg Zbc]at o;split at o
 .cases o
 next X=>exact h.crash (Xn.1 X)
def ab4{s b}{k:Int}(h:ig s b)(o:(if bJ s≠0 then bJ s else if s.up≠false then 221 else k)=0):ig (ju s) b:=by
 rw[if_neg Zbc]at o;split at o
 .cases o
 next X=>exact(h.back (Xn.1 X)).2
def ab2{s c}{k:Int}{b:nD}(h:ig s c)(o:(if bJ s≠0 then bJ s else if s.up≠true then 221 else if s.bad=false/\s.done.any (fun y=>y.ses==ses&&y.body==b)=false then 221 else k)=0):c.any (fun y=>y.ses==ses&&y.body==b)=true:=by
 rw[if_neg Zbc]at o;split at o
 .cases o
 next X=>
 split at o
 .cases o
 next hn=>
 refine h.known (Xn.1 X) ?_;cases d:s.done.any (fun y=>y.ses==ses&&y.body==b)with
 |true=>rfl
 |false=>exact absurd ⟨h.bad,d⟩ hn
def afG:(UB.info? 59).map (fun i=>(i.zero,i.size,i.bytes))=Ts (Ts (UT #[Ti Tl 0,Ti Tl 0,Ti Tt 0,Ti Tt 0]),4,32):=Pg
def aaX(l:List UV):Prop:=∀x∈l,∀c:Int,x≠Ti Uy c
def aaX.app{a b}(c:aaX a)(hb:aaX b):aaX (a++b):=fun x m=>(WD.1 m).elim (c x) (hb x)
def EL(d):aaX (nK d):=fun x m c=>by
 simp only[nK,PD]at m;rcases m with rfl|rfl|rfl|rfl<;>simp[ag]
def abG(l):aaX (bP l):=fun x m c=>by
 obtain⟨d,_,m⟩:=List.mem_flatMap.1 m;exact EL d x m c
def NC(k):aaX (WP (UT #[Ti Tl 0,Ti Tl 0,Ti Tt 0,Ti Tt 0]).cells k).toList:=fun x b c=>by
 unfold WP at b;rw[Array.toList_map]at b;obtain⟨i,_,rfl⟩:=Wl.1 b;have h:i%(UT #[Ti Tl 0,Ti Tl 0,Ti Tt 0,Ti Tt 0]).cells.size<4:=Wf _ Pi;generalize i%(UT #[Ti Tl 0,Ti Tl 0,Ti Tt 0,Ti Tt 0]).cells.size=m at h;match m,h with
 |0,_=>intro e;cases e
 |1,_=>intro e;cases e
 |2,_=>intro e;cases e
 |3,_=>intro e;cases e
def AZ(B:Nat)(w:UN)(v:UV)(l:List Dn):Prop:=(v=zz/\l=[])\/∃g cap b,v=Tm (Ts ⟨g,0,U8⟩) l.length cap/\B<g/\w.heap[g]?=Ts (Tq b 59 (0,0))/\l.length<=cap/\cap<=VL/\b.size=cap*4/\b.toList.take (l.length*4)=bP l/\aaX b.toList
def AZ.fr{B l}(h:AZ B w v l)(P:Fr S w b)(f:∀g,S g->g<=B):AZ B b v l:=by
 rcases h with h|⟨g,cap,d,h1,c,A,j⟩
 .exact .inl h
 exact .inr ⟨g,cap,d,h1,c,aM A P (fun e=>by have:=f g e;omega),j⟩
def AZ.ext{B l}(h:AZ B w v l)(f:aq w b):AZ B b v l:=by
 rcases h with h|⟨g,cap,d,h1,c,A,j⟩
 .exact .inl h
 exact .inr ⟨g,cap,d,h1,c,ai A f,j⟩
def AZ.own{B l}(h:AZ B w v l)(i:Nat)(e:Ts i=v.ownBlock):B<i/\i<w.heap.size:=by
 rcases h with⟨rfl,_⟩|⟨g,cap,b,rfl,c,A,_⟩
 .cases e
 cases e;exact⟨c,(UE.1 A).1⟩
def AZ.below{B f l}(h:AZ B w v l)(P:Fr (fun i=>Ts i=v.ownBlock) w b)(g:aq f w)(c:f.heap.size<=B+1):aq f b:=
 g.trans (P.below g.size (fun i e=>by have:=(h.own i e).1;omega))
def AZ.form{B l}(h:AZ B w v l):∃a c,v=Tm a l.length c/\l.length<=c/\cr 4 ahG w a l:=by
 rcases h with⟨rfl,rfl⟩|⟨g,cap,d,h1,t,A,p,r,s,o,q⟩
 .exact⟨U8,0,rfl,UY _,ZO _ _ _ _⟩
 refine⟨_,cap,h1,p,fun i x b=>⟨g,0,rfl,?_⟩⟩;have R:=(UU.1 b).1;have J:∀j u,j<4->(nK x)[j]?=Ts u->w.cell? ⟨g,0+i*4+j,U8⟩=Ts u:=fun j u Q X=>by
  have cf:=fC (m:=4) (f:=nK) (fun _=>rfl) j b Q;rw[X]at cf;have e:(bP l)[i*4+j]?=Ts u:=cf;rw[<-o,List.getElem?_take_of_lt Ph]at e;unfold Wc;rw[A];simpa [Nat.zero_add]using e
 exact⟨J 0 _ Pi rfl,J 1 _ Pi rfl,J 2 _ Pi rfl,J 3 _ Pi rfl⟩
def lg(l):(bP l).length=l.length*4:=dN (m:=4) (f:=nK) (fun _=>rfl) l
def Oi{B}(l:List Dn)(d:Dn)(v)(g:Nat)(w)(p:l.length<=1000)(H:AZ B w v l)(M:B<w.heap.size)(L:w.cell? ⟨g,0,U8⟩=Ts (Ti Tl d.ses))(g1:w.cell? ⟨g,1,U8⟩=Ts (Ti Tl d.ser))(g2:w.cell? ⟨g,2,U8⟩=Ts (ag d.body.1))(g3:w.cell? ⟨g,3,U8⟩=Ts (ag d.body.2)):
  ∃J E,(ag8 #[47,47] 47 #[v,Tm (Ts ⟨g,0,U8⟩) 1 1]).run UB w= .ok J E/\AZ B E J (l++[d])/\Fr (fun i=>Ts i=v.ownBlock) w E:=by
 obtain⟨i0,hi,y,q,t⟩:=WN afG;have o:∀(j:Nat)(u:UV),(nK d)[j]?=Ts u->w.cell? ((⟨g,0,U8⟩:VW).add j)=Ts u:=fun j u X=>by
  rw[show((⟨g,0,U8⟩:VW).add j)=⟨g,j,U8⟩from Px];match j,X with
  |0,X=>cases X;exact L
  |1,X=>cases X;exact g1
  |2,X=>cases X;exact g2
  |3,X=>cases X;exact g3
 have f:(l++[d]).length=l.length+1:=Pm;have fin:∀(old:Nat),old<l.length+1->AZ B (w.drew.alloc (Tq ((bP l).toArray++(nK d).toArray++WP (UT #[Ti Tl 0,Ti Tl 0,Ti Tt 0,Ti Tt 0]).cells (Yt w (l.length+1) old 59-(l.length+1))) 59)) (Tm (Ts ⟨w.heap.size,0,U8⟩) (l.length+1) (Yt w (l.length+1) old 59)) (l++[d]):=fun old _=>by
  have F:=grownCap_ge w (l.length+1) old 59;have C:Yt w (l.length+1) old 59<=VL:=Yh w (l.length+1) old 59 Pr;refine .inr ⟨w.heap.size,_,_,by rw[f],M,heap_alloc_new w.drew _,by rw[f];exact F,C,?_,?_,?_⟩
  .simp only[Array.size_append,WG,size_zeroCells,lg];exact U9
  .rw[<-lg,jP];simp only[Array.toList_append];exact List.take_left
  simp only[Array.toList_append];exact((abG l).app (EL d)).app (NC _)
 rcases H with⟨rfl,rfl⟩|⟨b,cap,D,rfl,c,A,O,N,G,K,I⟩
 .have s:=run_append_nil (P:=UB) w 47 47 59 i0 _ underlying47 hi y ⟨g,0,U8⟩ 1 1 (nK d) (by rw[q];rfl) o Pi Pi (by rw[t];decide);rw[fD]at s;have cf:=fin 0 Pm;rw[show(bP []).toArray++(nK d).toArray=(nK d).toArray from by simp[bP]]at cf;exact⟨_,_,s,cf,Uh (af (ap _) _)⟩
 by_cases r:l.length+1<=cap
 .have s:=run_append_room (P:=UB) (w:=w) 47 47 59 i0 underlying47 hi b l.length cap D A ⟨g,0,U8⟩ 1 1 (nK d) (by rw[q];rfl) o (fun u X=>by
   simp only[nK,PD]at X
   rcases X with rfl|rfl|rfl|rfl<;>simp[Value.oneCell',ag]) r (by rw[q,G];show l.length*4+4<=cap*4;omega)
  rw[fD,q]at s;refine⟨_,_,s,.inr ⟨b,cap,_,by rw[f],c,Z4 w b _ _ _ _ A,by rw[f];exact r,N,?_,?_,?_⟩,?_⟩
  .simp only[WG,Uo,VZ,List.length_drop,Array.length_toList,show(nK d).length=4 from rfl,G];omega
  .rw[f,K,jP];rw[show(l.length+1)*4=(bP l++nK d).length by rw[Uo,lg];rw[show(nK d).length=4 from rfl];omega];exact List.take_left
  .show aaX (_++_)
   exact(aaX.app (fun x m=>I x (List.mem_of_mem_take m)) (EL d)).app (fun x m=>I x (List.mem_of_mem_drop m))
  have z:(fun i=>Ts i=(Tm (Ts ⟨b,0,U8⟩) l.length cap).ownBlock)=fun i=>i=b:=by funext i;simp[Vt]
  rw[z];exact bH _ _ _
 have s:=run_append_grow (P:=UB) w 47 47 59 i0 _ underlying47 hi y ⟨b,0,U8⟩ l.length cap (bP l) (by rw[q,lg]) (fun j u X=>by
  rw[show((⟨b,0,U8⟩:VW).add j)=⟨b,j,U8⟩from Px];rw[<-K]at X;have Q:j<l.length*4:=by
   have:=(UU.1 X).1;rw[VZ]at this;omega
  rw[List.getElem?_take_of_lt Q]at X;unfold Wc;rw[A]
  simpa using X) ⟨g,0,U8⟩ 1 1 (nK d) (by rw[q];rfl) o Ph Ph (growslice_fits Ph (by rw[t];omega))
 rw[fD]at s;exact⟨_,_,s,fin cap Ph,Uh (af (ap _) _)⟩
def dQ.kp{B E s x l}(h:dQ w s x)(H:AZ B w v l)(P:Fr (fun i=>Ts i=v.ownBlock) w E):dQ E s x:=by
 rcases H with⟨rfl,_⟩|⟨g,cap,f,rfl,I,A,_,_,_,_,F⟩
 .exact h.ext (P.ext fun i _ e=>RH)
 have z:(fun i=>Ts i=(Tm (Ts ⟨g,0,U8⟩) l.length cap).ownBlock)=fun i=>i=g:=by funext i;simp[Vt]
 rw[z]at P;have d:∀p,x.da=Ts p->s.done≠[]->p.block≠g:=fun p G hn e=>by
  obtain⟨cs,m,u⟩:=h.typ p G hn;rw[e,A]at u;simp at u
 have o:∀(j:Nat)(c:Int),w.cell? ⟨g,j,U8⟩≠Ts (Ti Uy c):=fun j c e=>by
  unfold Wc at e;rw[A]at e;have D:f[j]?=Ts (Ti Uy c):=by simpa using e
  exact F _ (by rw[<-YN]at D;exact Uv D) c rfl
 refine⟨fun i y U=>?_,h.dl,h.dm,h.sto.off P o,h.typ.fr P d⟩;obtain⟨b,off,C,k0,t,r,q⟩:=h.done i y U;have hb:¬b=g:=d _ C (fun e=>by rw[e]at U;cases U);exact⟨b,off,C,(P.cell (p:=⟨b,_,U8⟩) (aR k0) hb).trans k0,(P.cell (p:=⟨b,_,U8⟩) (aR t) hb).trans t,(P.cell (p:=⟨b,_,U8⟩) (aR r) hb).trans r,(P.cell (p:=⟨b,_,U8⟩) (aR q) hb).trans q⟩
section
attribute [local go_sem↓] fD
structure LM where
 kind:Int
 ses:Int
 ser:Int
 name:Int
def ag9:pD LM:=fun w b o p=>w.cell? ⟨b,o,U8⟩=Ts (Ti Tl p.kind)/\w.cell? ⟨b,o+1,U8⟩=Ts (Ti Tl p.ses)/\w.cell? ⟨b,o+2,U8⟩=Ts (Ti Tl p.ser)/\w.cell? ⟨b,o+3,U8⟩=Ts (Ti Tl p.name)
instance:mj ag9:=⟨fun h hE=>⟨ae h.1 hE,ae h.2.1 hE,ae h.2.2.1 hE,ae h.2.2.2 hE⟩⟩
def Nq(A:Array UV)(h:A.size=286):∃t:Nat->UV,(∀i,t i=A.getD i VM)/\A=#[t 0,t 1,t 2,t 3,t 4,t 5,t 6,t 7,t 8,t 9,t 10,t 11,t 12,t 13,t 14,t 15,t 16,t 17,t 18,t 19,t 20,t 21,t 22,t 23,t 24,t 25,t 26,t 27,t 28,t 29,t 30,t 31,t 32,t 33,t 34,t 35,t 36,t 37,t 38,t 39,t 40,t 41,t 42,t 43,t 44,t 45,t 46,t 47,t 48,t 49,t 50,t 51,t 52,t 53,t 54,t 55,t 56,t 57,t 58,t 59,t 60,t 61,t 62,t 63,t 64,t 65,t 66,t 67,t 68,t 69,t 70,t 71,t 72,t 73,t 74,t 75,t 76,t 77,t 78,t 79,t 80,t 81,t 82,t 83,t 84,t 85,t 86,t 87,t 88,t 89,t 90,t 91,t 92,t 93,t 94,t 95,t 96,t 97,t 98,t 99,t 100,t 101,t 102,t 103,t 104,t 105,t 106,t 107,t 108,t 109,t 110,t 111,t 112,t 113,t 114,t 115,t 116,t 117,t 118,t 119,t 120,t 121,t 122,t 123,t 124,t 125,t 126,t 127,t 128,t 129,t 130,t 131,t 132,t 133,t 134,t 135,t 136,t 137,t 138,t 139,t 140,t 141,t 142,t 143,t 144,t 145,t 146,t 147,t 148,t 149,t 150,t 151,t 152,t 153,t 154,t 155,t 156,t 157,t 158,t 159,t 160,t 161,t 162,t 163,t 164,t 165,t 166,t 167,t 168,t 169,t 170,t 171,t 172,t 173,t 174,t 175,t 176,t 177,t 178,t 179,t 180,t 181,t 182,t 183,t 184,t 185,t 186,t 187,t 188,t 189,t 190,t 191,t 192,t 193,t 194,t 195,t 196,t 197,t 198,t 199,t 200,t 201,t 202,t 203,t 204,t 205,t 206,t 207,t 208,t 209,t 210,t 211,t 212,t 213,t 214,t 215,t 216,t 217,t 218,t 219,t 220,t 221,t 222,t 223,t 224,t 225,t 226,t 227,t 228,t 229,t 230,t 231,t 232,t 233,t 234,t 235,t 236,t 237,t 238,t 239,t 240,t 241,t 242,t 243,t 244,t 245,t 246,t 247,t 248,t 249,t 250,t 251,t 252,t 253,t 254,t 255,t 256,t 257,t 258,t 259,t 260,t 261,t 262,t 263,t 264,t 265,t 266,t 267,t 268,t 269,t 270,t 271,t 272,t 273,t 274,t 275,t 276,t 277,t 278,t 279,t 280,t 281,t 282,t 283,t 284,t 285]:=by
 refine⟨fun i=>A.getD i VM,fun _=>rfl,?_⟩
 rw[show A=Array.ofFn (n:=286) fun i=>A.getD i VM from by
  apply Array.ext
  .rw[Array.size_ofFn];exact h
  intro i h1 c
  rw[Array.getElem_ofFn]
  simp[Array.getD,h1]]
 kernel_rfl
def aeE(d:UN)(c k:Nat)(v:UV)(w:UN):Prop:=∃(s:dp)(b:List Dn)(x:gy),ig s b/\b.length<=k/\aq d w/\w.heap[c]?=Ts (Tq #[Ti Tl s.share.id,ag s.share.x,U1 s.bad,U1 s.up,Tm x.da s.done.length x.dc,x.u,x.v] 44 (0,0))/\dQ w s x/\AZ c w v b
def ab8(b:dp)(v:UV)(w:UN):Prop:=∃(da:Option VW)(dc:Nat)(c:Option VW)(d:Nat)(g:Option VW)(f:Nat),v=UT #[Ti Tl b.share.id,ag b.share.x,U1 b.bad,U1 b.up,Tm da b.done.length dc,Tm c b.store.safe.length d,Tm g b.store.opn.length f]/\dQ w b ⟨da,dc,Tm c b.store.safe.length d,Tm g b.store.opn.length f⟩
def G7(b:dp)(c:bq)(v:UV)(w:UN):Prop:=∃u,ab8 b u w/\v=UW #[u,UT #[Ti Tl c.id,ag c.x],Ti Tl 0]
def ab8.ext{j}(v w l)(h:ab8 j v w)(g:aq w l):ab8 j v l:=by
 obtain⟨a,b,c,d,e,f,L,h1⟩:=h;exact⟨a,b,c,d,e,f,L,h1.ext g⟩
def G7.ext{d c}(v w b)(h:G7 d c v w)(g:aq w b):G7 d c v b:=by
 obtain⟨u,L,h1⟩:=h;exact⟨u,ab8.ext _ _ _ L g,h1⟩
def G7.of{b}{c:bq}{e:Xo}(h:∃x',e=UO (UW #[eK b x',UT #[Ti Tl c.id,ag c.x],Ti Tl 0])/\dQ w b x'):∃v,e=UO v/\G7 b c v w:=by
 obtain⟨⟨da,dc,u,v⟩,rfl,f⟩:=h;obtain⟨g,j,m,l,X,d⟩:=f.sto.form;dsimp only at X d;subst X d;exact⟨_,rfl,_,⟨da,dc,g,j,m,l,rfl,f⟩,rfl⟩
def FI(s n)(m:au):(cE s n m).x<2^64:=by
 unfold cE;split
 .exact pw _
 exact Nat.zero_lt_succ _
def aiD(V:UN)(v:UV)(w:UN):Prop:=∃g,v=UK (Ts ⟨g,0,U8⟩)/\V.heap.size<=g/\w.heap[g]?=Ts (Tq #[Ti Tl 0,Ti Tt 0] 39 (0,0))
def aiD.ext(v w b)(h:aiD V v w)(d:aq w b):aiD V v b:=by
 obtain⟨g,L,h1,c⟩:=h;exact⟨g,L,h1,ai c d⟩
def agW(c:bq)(v:UV)(w:UN):Prop:=∃g,v=Tm (Ts ⟨g,0,U8⟩) 1 1/\cr 2 eF w (Ts ⟨g,0,U8⟩) [c]
def agW.ext{c}(v w b)(h:agW c v w)(d:aq w b):agW c v b:=by
 obtain⟨g,L,h1⟩:=h;exact⟨g,L,h1.ext d⟩
def ajS(c:UN)(f:Nat)(s:dp)(d:Int)(w:UN):Prop:=aq c w/\(d=0->∃b:gy,dQ w s b/\w.heap[f]?=Ts (Tq #[Ti Tl s.share.id,ag s.share.x,U1 s.bad,U1 s.up,Tm b.da s.done.length b.dc,b.u,b.v] 44 (0,0)))
def ah1(d:Dn)(v:UV)(w:UN):Prop:=∃g,v=Tm (Ts ⟨g,0,U8⟩) 1 1/\w.heap[g]?=Ts (Tq #[Ti Tl d.ses,Ti Tl d.ser,ag d.body.1,ag d.body.2] 59 (0,0))
def ah1.ext{d}(v w b)(h:ah1 d v w)(c:aq w b):ah1 d v b:=by
 obtain⟨g,L,h1⟩:=h;exact⟨g,L,ai h1 c⟩
def ag4(l:UN)(d g j f:Nat)(a:Option VW)(n c:Nat)(b:Act)(wr:UN):Prop:=b.tmps.size=286/\b.defers=[]/\b.tmps.getD 0 VM=Tm a n c/\b.tmps.getD 3 VM=U1 true/\b.tmps.getD 4 VM=UK (Ts ⟨g,0,U8⟩)/\b.tmps.getD 6 VM=UK (Ts ⟨j,0,U8⟩)/\b.tmps.getD 7 VM=Tm (Ts ⟨f,0,U8⟩) 1 1/\b.tmps.getD 9 VM=UK (Ts ⟨d,0,U8⟩)/\∃(k:Nat),k<=n/\b.tmps.getD 12 VM=Ti Tl (k:Int)/\aeE l d k (b.tmps.getD 11 VM) wr
def aa1(n:Nat)(b:Act):Nat:=n-(VS (b.tmps.getD 12 VM)).toNat
def aiY(l:UN)(f m k:Nat)(s:dp)(x:gy)(j gv:UV)(w:UN):Prop:=∃(g:Int)(b:List Dn),gv=Ti Tl g/\b.length<=k+1/\aq l w/\w.heap[f]?=Ts (Tq #[Ti Tl s.share.id,ag s.share.x,U1 s.bad,U1 s.up,Tm x.da s.done.length x.dc,x.u,x.v] 44 (0,0))/\dQ w s x/\AZ f w j b/\(g≠0->ig s b)/\
 (g=0->∃(c:dp)(d:gy),ig c b/\dQ w c d/\w.heap[m]?=Ts (Tq #[Ti Tl c.share.id,ag c.share.x,U1 c.bad,U1 c.up,Tm d.da c.done.length d.dc,d.u,d.v] 44 (0,0)))
attribute [local irreducible] ak aN
structure aiL(W9:UN)(ops:List LM)(a:Option VW)(n c:Nat)(ra na:Option VW)(rn rc nn nc:Nat)(tr:List Dv)(GT GW GS gb:Nat)(pa:Option VW)(ck cn pc:Nat)(si:Int)(sx:Nat):Prop where
 tr':ef [jM]=tr
 env:xB W9
 kd:aU W9
 ops':cr 4 ag9 W9 a ops
 tab:xG W9 ra rn rc na nn nc [jM] tr
 gt:W9.heap[GT]?=Ts (Tq #[Tm ra rn rc,Tm na nn nc] 27 (0,0))
 cw:mC W9 iC pa pc
 sh:cr 2 eF W9 (Ts ⟨gb,0,U8⟩) [kU]
 gw:W9.heap[GW]?=Ts (Tq #[Ti Tl 1,Ti Tl 1,ag ck,Tm pa cn pc] 33 (0,0))
 crw:pB iC pa pc=UT #[Ti Tl 1,Ti Tl 1,ag ck,Tm pa cn pc]
 id:kU.id=si
 x:kU.x=sx
 gs:W9.heap.size=GS
 len:ops.length=n
 n12:n<=12
 nc':n<=c
def qq:Code->Option Code
 | .loop c=>Ts c
 | .seq a b=>(qq a).orElse fun _=>qq b
 | .block _ c=>qq c
 | .scope c=>qq c
 | .cond _ a b=>(qq a).orElse fun _=>qq b
 |_=>U8
noncomputable def uW:Code:=((f3.body.bind qq).getD .skip)
def qT(g f b d:Nat)(a:Option VW)(n c k:Nat)(t:Nat->UV):Act:=⟨#[Tm a n c,t 1,t 2,U1 true,UK (Ts ⟨g,0,U8⟩),t 5,UK (Ts ⟨f,0,U8⟩),Tm (Ts ⟨d,0,U8⟩) 1 1,t 8,UK (Ts ⟨b,0,U8⟩),t 10,t 11,Ti Tl (k:Int),t 13,t 14,t 15,t 16,t 17,t 18,t 19,t 20,t 21,t 22,t 23,t 24,t 25,t 26,t 27,t 28,t 29,t 30,t 31,t 32,t 33,t 34,t 35,t 36,t 37,t 38,t 39,t 40,t 41,t 42,t 43,t 44,t 45,t 46,t 47,t 48,t 49,t 50,t 51,t 52,t 53,t 54,t 55,t 56,t 57,t 58,t 59,t 60,t 61,t 62,t 63,t 64,t 65,t 66,t 67,t 68,t 69,t 70,t 71,t 72,t 73,t 74,t 75,t 76,t 77,t 78,t 79,t 80,t 81,t 82,t 83,t 84,t 85,t 86,t 87,t 88,t 89,t 90,t 91,t 92,t 93,t 94,t 95,t 96,t 97,t 98,t 99,t 100,t 101,t 102,t 103,t 104,t 105,t 106,t 107,t 108,t 109,t 110,t 111,t 112,t 113,t 114,t 115,t 116,t 117,t 118,t 119,t 120,t 121,t 122,t 123,t 124,t 125,t 126,t 127,t 128,t 129,t 130,t 131,t 132,t 133,t 134,t 135,t 136,t 137,t 138,t 139,t 140,t 141,t 142,t 143,t 144,t 145,t 146,t 147,t 148,t 149,t 150,t 151,t 152,t 153,t 154,t 155,t 156,t 157,t 158,t 159,t 160,t 161,t 162,t 163,t 164,t 165,t 166,t 167,t 168,t 169,t 170,t 171,t 172,t 173,t 174,t 175,t 176,t 177,t 178,t 179,t 180,t 181,t 182,t 183,t 184,t 185,t 186,t 187,t 188,t 189,t 190,t 191,t 192,t 193,t 194,t 195,t 196,t 197,t 198,t 199,t 200,t 201,t 202,t 203,t 204,t 205,t 206,t 207,t 208,t 209,t 210,t 211,t 212,t 213,t 214,t 215,t 216,t 217,t 218,t 219,t 220,t 221,t 222,t 223,t 224,t 225,t 226,t 227,t 228,t 229,t 230,t 231,t 232,t 233,t 234,t 235,t 236,t 237,t 238,t 239,t 240,t 241,t 242,t 243,t 244,t 245,t 246,t 247,t 248,t 249,t 250,t 251,t 252,t 253,t 254,t 255,t 256,t 257,t 258,t 259,t 260,t 261,t 262,t 263,t 264,t 265,t 266,t 267,t 268,t 269,t 270,t 271,t 272,t 273,t 274,t 275,t 276,t 277,t 278,t 279,t 280,t 281,t 282,t 283,t 284,t 285],[]⟩
end
end Go.Proofs.YtjmgalpkbkcmkaaGreatDoor

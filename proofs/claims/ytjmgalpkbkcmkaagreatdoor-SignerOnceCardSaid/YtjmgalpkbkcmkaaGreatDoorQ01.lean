import Derived.Test.YtjmgalpkbkcmkaaGreatDoorQ00
set_option maxRecDepth 100000
set_option maxHeartbeats 16000000
set_option linter.all false
namespace Go.Proofs.YtjmgalpkbkcmkaaGreatDoor
open Go.RowKit Go.Proofs.Tryz Go.Proofs.YtjmgalpkbkcmkaaGreatDoor.Tryz
open _root_.Array renaming getElem?_eq_none->WB,getElem?_eq_some_iff->UE,getElem?_setIfInBounds_ne->Wg,getElem?_toList->YN,getElem?_eq_getElem->Vy
open Bool renaming or_eq_true->WU,and_eq_true->V7
open Go renaming World->UN,Calls->VB,yielded->Xs,callFunc->Wu,Program->Wn,maxLen->VL,Value->UV,Boxed->VX,Ending->Xo,Addr->VW,run_underlying->Yl,undef->VM,PanicEntry->XR,TypeId->WR,Oper->Xd
open Go.Act renaming put->Ua
open Go.Addr renaming add->ZL
open Go.Builtin renaming append_->YU
open Go.Code renaming region->YK
open Go.Ending renaming returned->UO
open Go.Fence renaming wide->Wx
open Go.IntKind renaming i64->Tl
open Go.Lib renaming hid->Tn,countByte->YY,indexByte->XS,size_eq->YW
open Go.Obj renaming cells->Tq
open Go.Proofs.Tryz renaming prog->UB
open Go.Region renaming wanted->Vr,noSelect_spec->YQ,ready->Ya
open Go.RowKit renaming Hid->VK
open Go.Value renaming string->UH,slice->Tm,bool->U1,ownBlock->Vt,int->Ti
open Go.World renaming size_alloc->Ud,setCell->XY,alloc_heap_new->UZ,putObj_heap_other->Vk
open List renaming flatMap_cons->Vh,getElem?_set_self->Vq,range->We,mem_of_getElem?->Uv,pairwise_cons->Y2,getElem?_take->XM,getElem?_set_ne->Vl,getElem?_eq_some_iff->UU,getElem?_eq_getElem->V8,getD_eq_getElem?_getD->Uj,mem_cons->VN,all_eq_true->WE,getElem?_map->VU,length->Xt,eq_nil_of_length_eq_zero->VA,getElem?_range->Yp
open List.Pairwise renaming nil->Yk
open Nat renaming add_mul->ZC,not_lt_zero->YG,zero_add->VY,le_refl->UY,zero_mul->Yx,lt_of_lt_of_le->Wp,zero_le->VF,le_trans->VG
open Option renaming some->Ts,none->U8,getD_some->Yu,map_some->Wm
open Option.some renaming inj->Vm,injEq->Vw
variable {A C W b c d w:World} {D b1 b2 cap g i j k m n n1 n2:Nat} {F:Act->Prop} {P:Program} {Q:Exit->Act->World->Prop} {S:Nat->Prop} {T e:TypeId} {a:Option Addr} {cs vs:List Value} {o:Oper} {ops:Array Oper} {os:List Oper} {s:ByteArray} {u v v2:Value}
section
def fP(k):Wx.fn k=True:=rfl
def cP:(Wx.depth=U8)=True:=QS
def dR:Wx.depth.isSome=false:=rfl
def bV{a b}(h:a=b):UO (U1 a)=UO (U1 b):=by rw[h]
def eu{k a b}(h:a=b):UO (Ti k a)=UO (Ti k b):=by rw[h]
structure Fr(S:Nat->Prop)(A B:UN):Prop where
 os:B.os=A.os
 tape:B.tape=A.tape
 output:B.output=A.output
 size:A.heap.size<=B.heap.size
 block:∀k,k<A.heap.size->¬S k->B.heap[k]?=A.heap[k]?
abbrev aq(A B:UN):Prop:=Below A.heap.size A B
def Fr.refl(S:Nat->Prop)(A):Fr S A A:=⟨rfl,rfl,rfl,UY _,fun _ _ _=>rfl⟩
def Fr.trans{S:Nat->Prop}{A B C}(h:Fr S A B)(k:Fr S B C):Fr S A C:=
 ⟨k.os.trans h.os,k.tape.trans h.tape,k.output.trans h.output,VG h.size k.size,
  fun i hi z=>(k.block i (Wp hi h.size) z).trans (h.block i hi z)⟩
def Fr.mono{S T:Nat->Prop}{A B}(h:Fr S A B)(z:∀k,k<A.heap.size->S k->T k):Fr T A B:=
 ⟨h.os,h.tape,h.output,h.size,fun i hi b=>h.block i hi (fun x=>b (z i hi x))⟩
def Fr.of_ext{S:Nat->Prop}{A B}(h:aq A B):Fr S A B:=⟨h.os,h.tape,h.output,h.size,fun i hi _=>h.block i hi⟩
def Fr.ext{S:Nat->Prop}{A B}(h:Fr S A B)(z:∀k,k<A.heap.size->¬S k):aq A B:=
 ⟨h.os,h.tape,h.output,h.size,fun i hi=>h.block i hi (z i hi)⟩
def Fr.below{S:Nat->Prop}{A B n}(h:Fr S A B)(hn:n<=A.heap.size)(z:∀k,S k->n<=k):Below n A B:=
 ⟨h.os,h.tape,h.output,h.size,fun i hi=>h.block i Ph (fun x=>by have:=z i x;omega)⟩
def Fr.alloc(S:Nat->Prop)(A)(o:Obj):Fr S A (A.alloc o):=Fr.of_ext ((Below.refl _ A).alloc (UY _) o)
def Fr.setCell{S:Nat->Prop}(A)(p:VW)(v)(x:S p.block):Fr S A (A.setCell p v):=
 ⟨rfl,rfl,rfl,by simp[XY],fun k _ z=>Below.heap_setCell _ _ _ _ (fun e=>z (e▸x))⟩
def Fr.putObj{S:Nat->Prop}(A l)(o:Obj)(p:S l):Fr S A (A.putObj l o):=
 ⟨rfl,rfl,rfl,Pm,fun k _ z=>Vk (fun e=>z (e▸p))⟩
def Fr.drew(S:Nat->Prop)(A):Fr S A A.drew:=⟨rfl,rfl,rfl,UY _,fun _ _ _=>rfl⟩
def Fr.drewN(S:Nat->Prop)(A n):Fr S A (A.drewN n):=⟨rfl,rfl,rfl,UY _,fun _ _ _=>rfl⟩
def Fr.boxed{S:Nat->Prop}{A B}(h:Fr S A B){b t v}(hb:VX A b t v)(z:¬S b):VX B b t v:=
 (h.block b hb.lt z).trans hb
def Fr.cell{S:Nat->Prop}{A B}(h:Fr S A B){p:VW}(x:p.block<A.heap.size)(z:¬S p.block):B.cell? p=A.cell? p:=
 World.cell?_of_block (h.block _ x z)
def Below.drewN'{n A B}(h:Below n A B)(k):Below n A (B.drewN k):=⟨h.os,h.tape,h.output,h.size,h.block⟩
def aa{A B C}(h:aq A B)(k:aq B C):aq A C:=h.trans (k.mono h.size)
def aC{A B}(h:aq A B){b t v}(hb:VX A b t v):VX B b t v:=(h.block b hb.lt).trans hb
def NH{α:Type}(P:Wn)(g:Nat)(o:Array UV)(enc:α->Array UV)(f:List α)(m:UN->Prop)(own j:Nat->Prop):Prop:=
 ∀(l:Nat)(J d:Nat->UN->Prop)(W:UN),m W->
  (∀k A B,J k A->Fr own A B->J k B)->(∀k A B,d k A->Fr own A B->d k B)->
  (∀k x t,f[k]?=Ts x->J k t->YieldAt Wx 0 P l (enc x) t fun e c=>
   (e=UO (U1 true)/\J (k+1) c/\Fr (fun b=>¬j b) t c)\/(e=UO (U1 false)/\d (k+1) c))->
  J 0 W->
  CallsIn Wx 0 P g (#[.func (.yield l) #[] #[]]++o) W fun e c=>(∃v,e=UO v)/\(J f.length c\/∃k,k<=f.length/\d k c)
def Bx(S:Nat->Prop)(I:Nat->UN->Prop)(c:Code->Nat->UN->Prop)(k:Nat)(W:UN):Exit->Act->UN->Prop
 | .normal,_,b=>Fr S W b/\I k b
 | .ret,_,b=>Fr S W b/\c .ret k b
 | .exit id,_,b=>Fr S W b/\c (.exit id) k b
 | .goto t,_,b=>Fr S W b/\c (.goto t) k b
 | .panic _,_,_=>False
 | .outgrown,_,_=>False
def afM(P:Wn)(S:Nat->Prop)(I:Nat->UN->Prop)(f:Code->Nat->UN->Prop)(l k:Nat)(body:Code)(W:UN)(g:Act)(d:UN):Prop:=
 Fr S W d/\I k d/\∀c,I k c->Fr (fun b=>b=l) d c->c.heap.size=d.heap.size->body.wpIn (Wx.inRound l) 0 P (Bx S I f (k+1) c) g c
variable {P:Wn}
def jQ{W b D t v}(h:VX W b t v)(zs:b≠D)(o:Obj):VX (W.putObj D o) b t v:=
 (Vk zs).trans h
def dB{fn:Func}{tmps}{R:Xo->UN->Prop}{D}{W:UN}{v}(H:W.heap[D]?=Ts (.deferred (Ts [])))(u:(results fn tmps).run P (W.putObj D (.deferred U8))= .ok v (W.putObj D (.deferred U8)))(b:R (UO v) (W.putObj D (.deferred U8))):LeavesInM Wx 0 P fn tmps R [{target:= .collected D,args:=#[]}] .returning W:=
 ⟨Pm,.inl ⟨_,_,rfl,run_takeDeferred H,⟨v,u,b⟩⟩⟩
def fN{n D A W}(h:Below n A W)(C:n<=D)(hn:n<=W.heap.size)(o:Obj):Below n A (W.putObj D o):=
 h.trans ((Fr.putObj (S:=fun b=>b=D) W D o rfl).below hn (fun k c=>Ph))
def bM(v:UV)(w:UN)(e:Xo)(b:UN):Prop:=e=UO v/\aq w b
end
section
def CC(C:WR->Prop)(A:UN)(k:Nat):Prop:=∃c t f,A.heap[k]?=Ts (Tq c t f)/\C t
structure jF(S:Nat->Prop)(C:WR->Prop)(A B:UN):Prop where
 os:B.os=A.os
 tape:B.tape=A.tape
 output:B.output=A.output
 size:A.heap.size<=B.heap.size
 block:∀k,k<A.heap.size->¬CC C A k->¬S k->B.heap[k]?=A.heap[k]?
abbrev Kp(C:WR->Prop)(A B:UN):Prop:=jF (fun _=>False) C A B
structure St(n0:Nat)(C:WR->Prop)(A B:UN):Prop where
 os:B.os=A.os
 tape:B.tape=A.tape
 output:B.output=A.output
 size:A.heap.size<=B.heap.size
 block:∀k,k<A.heap.size->(k<n0\/CC C A k)->B.heap[k]?=A.heap[k]?
variable {C:WR->Prop} {n0:Nat}
def CC.of_eq{A B:UN}{k}(h:B.heap[k]?=A.heap[k]?):CC C B k↔CC C A k:=by simp only[CC,h]
def OC{A:UN}{k}{o:Obj}(h:A.heap[k]?=Ts o)(d:∀c t f,o=Tq c t f->¬C t):¬CC C A k:=by
 rintro⟨c,t,f,h1,b⟩;rw[h]at h1;exact d _ _ _ (Vm h1) b
variable {S:Nat->Prop}
def jF.refl(A):jF S C A A:=⟨rfl,rfl,rfl,UY _,fun _ _ _ _=>rfl⟩
def jF.trans{A B D}(h:jF S C A B)(k:jF S C B D):jF S C A D:=
 ⟨k.os.trans h.os,k.tape.trans h.tape,k.output.trans h.output,VG h.size k.size,
  fun i hi z hn=>(k.block i (Wp hi h.size) (fun x=>z ((CC.of_eq (h.block i hi z hn)).1 x)) hn).trans (h.block i hi z hn)⟩
def jF.mono{T:Nat->Prop}{A B}(h:jF S C A B)(z:∀k,S k->T k):jF T C A B:=
 ⟨h.os,h.tape,h.output,h.size,fun i hi J b=>h.block i hi J (fun x=>b (z i x))⟩
def jF.of_ext{A B}(h:aq A B):jF S C A B:=⟨h.os,h.tape,h.output,h.size,fun i hi _ _=>h.block i hi⟩
def jF.setCell(A)(p:VW)(v)(x:CC C A p.block):jF S C A (A.setCell p v):=
 ⟨rfl,rfl,rfl,by simp[XY],fun k _ z _=>Below.heap_setCell _ _ _ _ (fun e=>z (e▸x))⟩
def jF.obj{A B}(h:jF S C A B){k}{o:Obj}(b:A.heap[k]?=Ts o)(d:∀c t f,o=Tq c t f->¬C t)(z:¬S k):B.heap[k]?=Ts o:=
 (h.block k (UE.1 b).1 (OC b d) z).trans b
def jF.boxed{A B}(h:jF S C A B){b t v}(hb:VX A b t v)(c:¬C t)(z:¬S b):VX B b t v:=
 h.obj hb (fun _ _ _ e=>by cases e;exact c) z
def St.of_ext{A B}(h:aq A B):St n0 C A B:=⟨h.os,h.tape,h.output,h.size,fun i hi _=>h.block i hi⟩
def St.mono{n1 A B}(h:St n1 C A B)(hn:n0<=n1):St n0 C A B:=
 ⟨h.os,h.tape,h.output,h.size,fun i hi z=>h.block i hi (z.imp_left fun x=>Wp x hn)⟩
def St.below{A B}(h:St n0 C A B)(hn:n0<=A.heap.size):Below n0 A B:=
 ⟨h.os,h.tape,h.output,h.size,fun i hi=>h.block i Ph (.inl hi)⟩
def St.putObj{A:UN}{l}{o o':Obj}(p:A.heap[l]?=Ts o)(hn:n0<=l)(b:∀c t f,o≠Tq c t f):St n0 C A (A.putObj l o'):=by
 refine⟨rfl,rfl,rfl,Pm,fun k _ z=>Vk (fun e=>?_)⟩;subst e;rcases z with z|⟨c,t,f,h1,-⟩
 .omega
 rw[p]at h1;exact b c t f (Vm h1)
def St.boxed{A B}(h:St n0 C A B){b t v}(hb:VX A b t v)(c:C t\/b<n0):VX B b t v:=
 (h.block b hb.lt (c.symm.imp_right fun c=>⟨_,_,_,hb,c⟩)).trans hb
def H4{α:Type}(P:Wn)(g:Nat)(m:Array UV)(enc:α->Array UV)(f:List α)(C:WR->Prop)(j:UN->Prop):Prop:=
 ∀(l:Nat)(S:Nat->Prop)(J d:Nat->UN->Prop)(W:UN),j W->l<W.heap.size->(∀b,S b->b<W.heap.size)->
  (∀k A B,J k A->St W.heap.size C A B->J k B)->(∀k A B,d k A->St W.heap.size C A B->d k B)->
  (∀k x t,f[k]?=Ts x->J k t->W.heap.size<=t.heap.size->YieldAt Wx 0 P l (enc x) t fun e c=>
   (e=UO (U1 true)/\J (k+1) c/\Kp C t c)\/(e=UO (U1 false)/\d (k+1) c/\jF (fun b=>b=l\/S b) C t c))->
  J 0 W->
  CallsIn Wx 0 P g (#[.func (.yield l) #[] #[]]++m) W fun e c=>(∃v,e=UO v)/\(J f.length c\/∃k,k<=f.length/\d k c)
def Jn(S:Nat->Prop)(C:WR->Prop)(I:Nat->UN->Prop)(c:Code->Nat->UN->Prop)(k:Nat)(W:UN):Exit->Act->UN->Prop
 | .normal,_,b=>Kp C W b/\I k b
 | .ret,_,b=>jF S C W b/\c .ret k b
 | .exit id,_,b=>jF S C W b/\c (.exit id) k b
 | .goto t,_,b=>jF S C W b/\c (.goto t) k b
 | .panic _,_,_=>False
 | .outgrown,_,_=>False
def ac5(P:Wn)(S:Nat->Prop)(C:WR->Prop)(I:Nat->UN->Prop)(f:Code->Nat->UN->Prop)(l k:Nat)(body:Code)(W:UN)(g:Act)(d:UN):Prop:=
 Kp C W d/\I k d/\∀c,I k c->Fr (fun b=>b=l) d c->c.heap.size=d.heap.size->body.wpIn (Wx.inRound l) 0 P (Jn S C I f (k+1) c) g c
variable {P:Wn}
def mL{α:Type}{g:Operand}{ps:Array Tmp}{assign body:Code}{Q:Exit->Act->UN->Prop}{a:Act}{w gf lb}(hg:a.eval g= .func (.func gf) #[] lb)(eg:∀args w,(Wu gf args).run P w= .ok (.enter gf args) w){enc:α->Array UV}{xs:List α}{Ok:UN->Prop}(hit:H4 P gf lb enc xs C Ok)(hOk:∀o1 o2,Ok ((w.alloc o1).alloc o2))(hps:∀x,(enc x).size=ps.size)(S:Nat->Prop)(hS:∀b,S b->b<w.heap.size)(I:Nat->UN->Prop)(Ix:Code->Nat->UN->Prop)(hI:∀k A B,I k A->St w.heap.size C A B->I k B)(Y:∀c k A B,Ix c k A->St w.heap.size C A B->Ix c k B)(h0:I 0 w)(ac:∀(l k:Nat)(x:α)(W:UN),xs[k]?=Ts x->l=w.heap.size+1->w.heap.size+2<=W.heap.size->I k W->
   assign.wpIn (Wx.inRound l) 0 P (Exit.then (ac5 P S C I Ix l k body W) (fun _ _ _=>False)) {tmps:=(ps.zip (enc x)).foldl (fun t(p,v)=>t.setIfInBounds p v) a.tmps,defers:=[]} W)(ad:∀(W:UN),I xs.length W->W.heap[w.heap.size]?=Ts (.deferred (Ts []))->Q .normal {a with defers:={target:= .collected w.heap.size,args:=#[]}::a.defers} W)(ah:∀(c:Code)(k:Nat)(W:UN),k<=xs.length->Ix c k W->W.heap[w.heap.size]?=Ts (.deferred (Ts []))->
   c.wpIn Wx 0 P Q {a with defers:={target:= .collected w.heap.size,args:=#[]}::a.defers} W):
  (Code.rangeFunc g ps assign body).wpIn Wx 0 P Q a w:=by
 refine wpIn_rangeFunc ?_;intro fn hfn;obtain⟨r,y⟩:∃r:LoopState->Option Code->Loop,r=fun st pe=>{state:=st,pending:=pe,fn,tmps:=a.tmps,params:=ps,assign,body,defers:=w.heap.size}:=⟨_,rfl⟩;refine P1 ((w.alloc (.deferred (Ts []))).alloc (.loop (r .ready U8))) fun V K=>?_;have hZ1:V.heap.size=w.heap.size+2:=by rw[<-K];simp
 have hL1:V.heap[w.heap.size+1]?=Ts (.loop (r .ready U8)):=by
  rw[<-K];have:=UZ (w.alloc (.deferred (Ts []))) (.loop (r .ready U8));rwa[Ud]at this
 have hK1:V.heap[w.heap.size]?=Ts (.deferred (Ts [])):=by
  rw[<-K];exact(Below.heap_alloc _ _ _ Pm).trans (UZ w _)
 have hI1:I 0 V:=by rw[<-K];exact hI _ _ _ h0 (St.of_ext (aa ((Below.refl _ w).alloc (UY _) _) (P0.alloc (UY _) _)))
 have hO1:Ok V:=by rw[<-K];exact hOk _ _
 have nl:∀(L:Loop),∀c t f,Obj.loop L≠Tq c t f:=fun _ _ _ _ h=>Rw;have nc:∀(L:Loop),∀c t f,Obj.loop L=Tq c t f->¬C t:=fun _ _ _ _ h=>Rw;have ncd:∀c t f,Obj.deferred (Ts [])=Tq c t f->¬C t:=fun _ _ _ h=>Rw;have D:∀{A:UN}{L:Loop}{o:Obj},A.heap[w.heap.size+1]?=Ts (.loop L)->St w.heap.size C A (A.putObj (w.heap.size+1) o):=fun h=>St.putObj h Ph (nl _)
 refine⟨w.heap.size+1,[{target:= .collected w.heap.size,args:=#[]}],V,{target:= .fn (.func gf) lb,args:=#[.func (.yield (w.heap.size+1)) #[] #[]]},V,gf,
  #[.func (.yield (w.heap.size+1)) #[] #[]]++lb,V,?_,?_,fun _ _=>trivial,?_,fun h=>by simp[Wx]at h,?_⟩
 .rw[<-K,y];exact run_enterLoop_outer _ _ _ _ _
 .simp only[resolve,hg];simp[go_sem]
 .simp[invoke,go_sem,eg]
 have Z:∀{A B:UN}{j:Nat}{o:Obj},St V.heap.size C A B->j<w.heap.size+2->A.heap[j]?=Ts o->B.heap[j]?=Ts o:=
  fun cf hj ho=>(cf.block _ (UE.1 ho).1 (.inl Ph)).trans ho
 refine(hit (w.heap.size+1) S
  (fun k W=>I k W/\W.heap[w.heap.size+1]?=Ts (.loop (r .ready U8))/\W.heap[w.heap.size]?=Ts (.deferred (Ts [])))
  (fun k W=>∃c,Ix c k W/\W.heap[w.heap.size+1]?=Ts (.loop (r .done (Ts c)))/\W.heap[w.heap.size]?=Ts (.deferred (Ts [])))
  V hO1 Ph (fun b hb=>by have:=hS b hb;omega)
  (fun k A B z cf=>⟨hI k A B z.1 (cf.mono Ph),Z cf Ph z.2.1,Z cf Ph z.2.2⟩)
  (fun k A B z cf=>by
   obtain⟨c,J,F,N⟩:=z
   exact⟨c,Y c k A B J (cf.mono Ph),Z cf Ph F,Z cf Ph N⟩)
  ?_ ⟨hI1,hL1,hK1⟩).mono ?_
 .rintro k x W m⟨hi,F,N⟩-;have R:w.heap.size+1<W.heap.size:=(UE.1 F).1;have U:=run_yield (P:=P) (args:=enc x) F (by rw[y];exact hps x);rw[y]at U;refine⟨fn,_,assign,body,U,roundIn_of_wpIn hfn (wpIn_mono (ac _ k x W m rfl Ph hi) ?_)⟩;rintro e a1 Wa M;cases e with
  |exit id=>exact M.elim
  |goto t=>exact M.elim
  |ret=>exact M.elim
  |panic ch=>exact M.elim
  |outgrown=>exact M.elim
  |normal=>
  obtain⟨s,hia,hba⟩:=M;have al:=F;replace F:=s.obj F (nc _) (fun x=>x)
  replace N:=s.obj N ncd (fun x=>x)
  replace R:w.heap.size+1<Wa.heap.size:=(UE.1 F).1
  replace hi:=hia
  revert al hba s;generalize W=Wb;intro s hba al;obtain⟨W,rfl⟩:∃W,W=Wa:=⟨_,rfl⟩;refine⟨_,run_beginRound F (by rw[y]),?_⟩;have hl2:(W.putObj (w.heap.size+1) (.loop {r .ready U8 with state:= .busy})).heap[w.heap.size+1]?=Ts (.loop {r .ready U8 with state:= .busy}):=World.putObj_heap_same R;have hk2:(W.putObj (w.heap.size+1) (.loop {r .ready U8 with state:= .busy})).heap[w.heap.size]?=Ts (.deferred (Ts [])):=(Vk Ph).trans N;refine wpIn_mono (hba _ (hI _ _ _ hi (D F)) (Fr.putObj W _ _ rfl) Pm) ?_;have hns:∀j,w.heap.size<=j->¬S j:=fun j hj x=>TD;have fin:∀(q:Option Code)(O:UN),jF S C (W.putObj (w.heap.size+1) (.loop {r .ready U8 with state:= .busy})) O->
    (Instr.endRound (w.heap.size+1) q).run P O= .ok (U1 q.isNone) (O.putObj (w.heap.size+1) (.loop (r (if q.isNone then .ready else .done) q)))/\
    (O.putObj (w.heap.size+1) (.loop (r (if q.isNone then .ready else .done) q))).heap[w.heap.size+1]?=Ts (.loop (r (if q.isNone then .ready else .done) q))/\
    (O.putObj (w.heap.size+1) (.loop (r (if q.isNone then .ready else .done) q))).heap[w.heap.size]?=Ts (.deferred (Ts []))/\
    (∃L,O.heap[w.heap.size+1]?=Ts (.loop L)):=fun q O d=>by
   have an:=d.obj hl2 (nc _) (hns _ Ph)
   have hd3:=d.obj hk2 ncd (hns _ Ph)
   have:=run_endRound (P:=P) q an
   rw[y]at this⊢
   exact⟨this,World.putObj_heap_same (UE.1 an).1,(Vk Ph).trans hd3,_,an⟩
  have keep:∀(O:UN)(o:Obj)(T:Nat->Prop),jF T C (W.putObj (w.heap.size+1) (.loop {r .ready U8 with state:= .busy})) O->
    jF (fun b=>b=w.heap.size+1\/T b) C Wb (O.putObj (w.heap.size+1) o):=fun O o T d=>by
   refine⟨d.os.trans s.os,d.tape.trans s.tape,d.output.trans s.output,by have:=d.size;have:=s.size;simp at*;omega,fun k N z zs=>?_⟩
   have am:=s.block k N z (fun x=>x)
   have e2:(W.putObj (w.heap.size+1) (.loop {r .ready U8 with state:= .busy})).heap[k]?=W.heap[k]? :=Vk (fun x=>zs (.inl x))
   have e3:=d.block k (by have:=s.size;simp;omega) (fun x=>z ((CC.of_eq (e2.trans am)).1 x)) (fun x=>zs (.inr x))
   exact(Vk (fun x=>zs (.inl x))).trans (e3.trans (e2.trans am))
  rintro e a3 O M;cases e with
  |normal=>
   obtain⟨d,G⟩:=M;obtain⟨u,E,H,L,hL⟩:=fin U8 O (d.mono (fun _ h=>h.elim));refine⟨_,_,u,.inl ⟨rfl,⟨hI _ _ _ G (D hL),E,H⟩,?_⟩⟩;have X:=keep O (.loop (r (if(U8:Option Code).isNone then .ready else .done) U8)) _ d;refine⟨X.os,X.tape,X.output,X.size,fun k N z _=>?_⟩;by_cases ab:k=w.heap.size+1
   .subst ab;exact E.trans al.symm
   exact X.block k N z (fun h=>h.elim ab (fun h=>h))
  |ret=>
   obtain⟨d,G⟩:=M;obtain⟨u,E,H,L,hL⟩:=fin (Ts .ret) O d;exact⟨_,_,u,.inr ⟨rfl,⟨.ret,Y _ _ _ _ G (D hL),E,H⟩,keep _ _ _ d⟩⟩
  |exit id=>
   obtain⟨d,G⟩:=M;obtain⟨u,E,H,L,hL⟩:=fin (Ts (.exit id)) O d;exact⟨_,_,u,.inr ⟨rfl,⟨.exit id,Y _ _ _ _ G (D hL),E,H⟩,keep _ _ _ d⟩⟩
  |goto t=>
   obtain⟨d,G⟩:=M;obtain⟨u,E,H,L,hL⟩:=fin (Ts (.goto t)) O d;exact⟨_,_,u,.inr ⟨rfl,⟨.goto t,Y _ _ _ _ G (D hL),E,H⟩,keep _ _ _ d⟩⟩
  |panic ch=>exact M.elim
  |outgrown=>exact M.elim
 rintro e W2⟨⟨v,rfl⟩,(⟨hi,F,N⟩|⟨k,ab,c,hi,F,N⟩)⟩
 .exact⟨U8,_,R9,ad _ (hI _ _ _ hi (D F)) ((Vk Ph).trans N)⟩
 exact⟨Ts c,_,R9,ah c k _ ab (Y c _ _ _ hi (D F)) ((Vk Ph).trans N)⟩
def gT(n0:Nat)(W:UN):Nat->List Deferred->Prop
 |_,[]=>True
 |hi,d::ds=>∃D,d={target:= .collected D,args:=#[]}/\D<hi/\n0<=D/\W.heap[D]?=Ts (.deferred (Ts []))/\gT n0 W D ds
def gT.le{n0 W hi b ds}(h:gT n0 W hi ds)(f:hi<=b):gT n0 W b ds:=by
 cases ds with
 |nil=>trivial
 |cons d ds=>obtain⟨D,h1,c,A⟩:=h;exact⟨D,h1,Ph,A⟩
def gT.of_eq{n0}{A B:UN}:∀{ds:List Deferred}{hi:Nat},gT n0 A hi ds->(∀k,k<hi->A.heap[k]?=Ts (.deferred (Ts []))->B.heap[k]?=Ts (.deferred (Ts [])))->gT n0 B hi ds:=by
 intro ds;induction ds with
 |nil=>intro hi _ _;trivial
 |cons d ds f=>
  intro hi h b;obtain⟨D,h1,c,j,l,g⟩:=h;exact⟨D,h1,c,j,b D c l,f g (fun k o=>b k Ph)⟩
def gT.kp{n0 A B ds hi}(h:gT n0 A hi ds)(k:Kp C A B):gT n0 B hi ds:=
 h.of_eq fun _ _ y=>k.obj y (fun _ _ _ e=>RH) (fun x=>x)
def gT.st{n0 A B ds hi}(h:gT n0 A hi ds)(c:hi<=A.heap.size){n1}(hn:hi<=n1)(k:St n1 C A B):gT n0 B hi ds:=
 h.of_eq fun i b y=>(k.block i Ph (.inl Ph)).trans y
def gT.ext{n0 A B ds hi}(h:gT n0 A hi ds)(k:aq A B):gT n0 B hi ds:=
 h.of_eq fun i _ y=>(k.block i (UE.1 y).1).trans y
def Db{fn:Func}{tmps}{R:Xo->UN->Prop}{n0 v}:∀(ds:List Deferred)(hi:Nat)(W:UN),gT n0 W hi ds->
  (∀b,b.heap.size=W.heap.size->b.os=W.os->b.tape=W.tape->b.output=W.output->(∀k,k<n0->b.heap[k]?=W.heap[k]?)->
   (∀(k:Nat)(c:Array UV)(t:WR)(f:Nat×Nat),W.heap[k]?=Ts (Tq c t f)->b.heap[k]?=Ts (Tq c t f))->(results fn tmps).run P b= .ok v b/\R (UO v) b)->
  LeavesInM Wx 0 P fn tmps R ds .returning W:=by
 intro ds;induction ds with
 |nil=>
  intro hi W _ h;obtain⟨h1,g⟩:=h W rfl rfl rfl rfl (fun _ _=>rfl) (fun _ _ _ _ h=>h);exact⟨v,h1,g⟩
 |cons d ds l=>
  intro hi W K h;obtain⟨D,rfl,g,A,j,m⟩:=K;refine⟨Pm,.inl ⟨D,_,rfl,run_takeDeferred j,l D _ (m.of_eq fun k o y=>(Vk Ph).trans y) ?_⟩⟩;intro b s1 u r p q s;refine h b (by rw[s1];simp) u r p (fun k o=>(q k o).trans (Vk Ph)) (fun k c t f o=>s k c t f ((Vk (fun e=>?_)).trans o));subst e;rw[j]at o;cases o
end
def aq.grown{row}(h:aq A w)(S:w.grownBy b row)(u:∀k,row=Ts k->A.heap.size<=k):aq A b:=Below.grown h S h.size u
def bE{base size b}(h:w.ownsRow base e size v n b):∀k,v.ownBlock=Ts k->base<=k:=
 fun k o=>(h.lt k o).1
def d9(w:UN)(v:UV)(t:WR):∀(j:Nat)(u:UV),[v][j]?=Ts u->(w.alloc (Tq #[v] t)).cell? ((⟨w.heap.size,0,U8⟩:VW).add j)=Ts u:=by
 intro j u h;cases j with
 |zero=>simp at h;subst h;simp[ZL,go_sem]
 |succ j=>simp at h
abbrev pD(α:Type):=UN->Nat->Nat->α->Prop
class mj {α:Type} (R:pD α):Prop where
 ext:∀{w w':UN}{b o:Nat}{x:α},R w b o x->aq w w'->R w' b o x
def cr{α:Type}(n:Nat)(R:pD α)(w:UN)(a:Option VW)(l:List α):Prop:=
 ∀i x,l[i]?=Ts x->∃b off,a=Ts ⟨b,off,U8⟩/\R w b (off+i*n) x
def cr.ext{α:Type}{R:pD α}[mj R]{l:List α}(h:cr n R w a l)(g:aq w c):cr n R c a l:=fun i x m=>by
 obtain⟨b,off,d,f⟩:=h i x m;exact⟨b,off,d,mj.ext f g⟩
def cr.nil{α:Type}(n)(R:pD α)(w a):cr n R w a []:=fun i x m=>by simp at m
def cr.take{α:Type}{R:pD α}{l:List α}(h:cr n R w a l)(k):cr n R w a (l.take k):=fun i x m=>by
 rw[XM]at m;split at m
 .exact h i x m
 cases m
def Ke{α:Type}(n:Nat)(R:pD α)(w:UN)(v:UV)(l:List α):Prop:=
 ∃a cap,v=Tm a l.length cap/\l.length<=cap/\cap<=VL/\cr n R w a l
def af(h:aq w b)(o:Obj):aq w (b.alloc o):=h.alloc h.size o
def pq(h:aq w b)(n):aq w (b.drewN n):=Below.drewN' h n
def aW{α:Type}{l:List α}{e:α}(h:l[k]?=Ts e):l.take (k+1)=l.take k++[e]:=by
 rw[List.take_add_one,h];rfl
def ay{α:Type}{l:List α}(hn:l.length=n)(h:k<n):∃e,l[k]?=Ts e:=⟨_,V8 (by rw[hn];exact h)⟩
def dX:UN->List Obj->UN
 |w,[]=>w
 |w,o::l=>dX (w.alloc o) l
def bZ:∀{l:List Obj}{w W:UN},dX w l=W->aq w W
 |[],_,_,h=>h▸P0
 |_::_,w,_,h=>aa (af (Below.refl _ w) _) (bZ h)
def bW:∀{l:List Obj}{w W:UN}{D:Nat},dX w l=W->w.heap.size=D->∀(i:Nat){o:Obj},l[i]?=Ts o->W.heap[D+i]?=Ts o
 |a::l,w,W,D,h,C,0,o,b=>by
  cases b;have c:=bZ (w:=w.alloc a) h;have A:=UZ w a;subst C;exact(c.block w.heap.size (UE.1 A).1).trans A
 |a::l,w,W,D,h,C,i+1,o,b=>by
  have:=bW (l:=l) (w:=w.alloc a) (D:=D+1) h (by rw[Ud,C]) i (o:=o) (by simpa using b);rw[show D+(i+1)=D+1+i from Ph];exact this
def ei{a:Obj}{l:List Obj}(h:dX w (a::l)=W)(C:w.heap.size=D):W.heap[D]?=Ts a:=bW (i:=0) h C rfl
def nV{q:Prop}(W:UN)(o:Obj)(k:∀(G:Nat)(V:UN),VK (W.heap.size=G)->VK (W.alloc o=V)->VK (aq W V)->VK (V.heap[G]?=Ts o)->q):q:=
 k _ _ rfl rfl (af P0 _) (UZ _ _)
section
def acT(P:Wn)(S:Nat->Prop)(I:Nat->UN->Prop)(f:Code->Nat->UN->Prop)(l k:Nat)(body:Code)(W:UN)(g:Act)(d:UN):Prop:=
 Fr S W d/\I k d/\∀c,(∃r,c.heap[l]?=Ts (.loop r))->I k c->Fr (fun b=>b=l) d c->c.heap.size=d.heap.size->body.wpIn (Wx.inRound l) 0 P (Bx S I f (k+1) c) g c
variable {P:Wn}
end
section
variable {P:Wn}
def xr{α:Type}{g:Operand}{ps:Array Tmp}{assign body:Code}{Q:Exit->Act->UN->Prop}{a:Act}{w gf lb}(hg:a.eval g= .func (.func gf) #[] lb)(eg:∀args w,(Wu gf args).run P w= .ok (.enter gf args) w){enc:α->Array UV}{xs:List α}{Ok:UN->Prop}{own K:Nat->Prop}(hit:NH P gf lb enc xs Ok own K)(hOk:∀o1 o2,Ok ((w.alloc o1).alloc o2))(r:∀b,own b->b<w.heap.size)(hdep:∀b,K b->b<w.heap.size)(hps:∀x,(enc x).size=ps.size)(S:Nat->Prop)(hSd:∀b,S b->¬K b)(hS:∀b,S b->b≠w.heap.size/\b≠w.heap.size+1)(I:Nat->UN->Prop)(Ix:Code->Nat->UN->Prop)(hI:∀k A B,I k A->Fr (fun b=>own b\/b=w.heap.size\/b=w.heap.size+1) A B->I k B)(M:∀c k A B,Ix c k A->Fr (fun b=>own b\/b=w.heap.size\/b=w.heap.size+1) A B->Ix c k B)(L:I 0 w)(Y:∀(l k:Nat)(x:α)(W:UN),xs[k]?=Ts x->l=w.heap.size+1->w.heap.size+2<=W.heap.size->I k W->
   assign.wpIn (Wx.inRound l) 0 P (Exit.then (acT P S I Ix l k body W) (fun _ _ _=>False)) {tmps:=(ps.zip (enc x)).foldl (fun t(p,v)=>t.setIfInBounds p v) a.tmps,defers:=[]} W)(ab:∀(W:UN),I xs.length W->W.heap[w.heap.size]?=Ts (.deferred (Ts []))->Q .normal {a with defers:={target:= .collected w.heap.size,args:=#[]}::a.defers} W)(ac:∀(c:Code)(k:Nat)(W:UN),k<=xs.length->Ix c k W->W.heap[w.heap.size]?=Ts (.deferred (Ts []))->
   c.wpIn Wx 0 P Q {a with defers:={target:= .collected w.heap.size,args:=#[]}::a.defers} W):
  (Code.rangeFunc g ps assign body).wpIn Wx 0 P Q a w:=by
 refine wpIn_rangeFunc ?_;intro fn hfn;obtain⟨f,q⟩:∃f:LoopState->Option Code->Loop,f=fun st pe=>{state:=st,pending:=pe,fn,tmps:=a.tmps,params:=ps,assign,body,defers:=w.heap.size}:=⟨_,rfl⟩;refine P1 ((w.alloc (.deferred (Ts []))).alloc (.loop (f .ready U8))) fun N T=>?_;have hL1:N.heap[w.heap.size+1]?=Ts (.loop (f .ready U8)):=by
  rw[<-T];have:=UZ (w.alloc (.deferred (Ts []))) (.loop (f .ready U8));rwa[Ud]at this
 have hK1:N.heap[w.heap.size]?=Ts (.deferred (Ts [])):=by
  rw[<-T];exact(Below.heap_alloc _ _ _ Pm).trans (UZ w _)
 have hI1:I 0 N:=by rw[<-T];exact hI _ _ _ (hI _ _ _ L (Fr.alloc _ _ _)) (Fr.alloc _ _ _)
 have hO1:Ok N:=by rw[<-T];exact hOk _ _
 refine⟨w.heap.size+1,[{target:= .collected w.heap.size,args:=#[]}],N,{target:= .fn (.func gf) lb,args:=#[.func (.yield (w.heap.size+1)) #[] #[]]},N,gf,
  #[.func (.yield (w.heap.size+1)) #[] #[]]++lb,N,?_,?_,fun _ _=>trivial,?_,fun h=>by simp[Wx]at h,?_⟩
 .rw[<-T,q];exact run_enterLoop_outer _ _ _ _ _
 .simp only[resolve,hg];simp[go_sem]
 .simp[invoke,go_sem,eg]
 have X:∀{A B:UN}{j:Nat}{o:Obj},Fr own A B->j<A.heap.size->w.heap.size<=j->A.heap[j]?=Ts o->B.heap[j]?=Ts o:=
  fun cf R hj ho=>(cf.block _ R (fun x=>by have:=r _ x;omega)).trans ho
 refine(hit (w.heap.size+1)
  (fun k W=>I k W/\W.heap[w.heap.size+1]?=Ts (.loop (f .ready U8))/\W.heap[w.heap.size]?=Ts (.deferred (Ts [])))
  (fun k W=>∃c,Ix c k W/\W.heap[w.heap.size+1]?=Ts (.loop (f .done (Ts c)))/\W.heap[w.heap.size]?=Ts (.deferred (Ts [])))
  N hO1
  (fun k A B z cf=>⟨hI k A B z.1 (cf.mono fun _ _ h=> .inl h),X cf (UE.1 z.2.1).1 Ph z.2.1,X cf (UE.1 z.2.2).1 Ph z.2.2⟩)
  (fun k A B z cf=>by
   obtain⟨c,J,H,V⟩:=z
   exact⟨c,M c k A B J (cf.mono fun _ _ h=> .inl h),X cf (UE.1 H).1 Ph H,X cf (UE.1 V).1 Ph V⟩)
  ?_ ⟨hI1,hL1,hK1⟩).mono ?_
 .rintro k x W m⟨hi,H,V⟩;have R:=(UE.1 H).1;have U:=run_yield (P:=P) (args:=enc x) H (by rw[q];exact hps x);rw[q]at U;refine⟨fn,_,assign,body,U,roundIn_of_wpIn hfn (wpIn_mono (Y _ k x W m rfl Ph hi) ?_)⟩;rintro e a1 Wa G;cases e with
  |exit id=>exact G.elim
  |goto t=>exact G.elim
  |ret=>exact G.elim
  |panic ch=>exact G.elim
  |outgrown=>exact G.elim
  |normal=>
  obtain⟨y,hia,ad⟩:=G;have Z:∀j,(j=w.heap.size\/j=w.heap.size+1)->¬S j:=fun j hj x=>TD;replace H:=(y.block _ Ph (Z _ Ph)).trans H
  replace V:=(y.block _ Ph (Z _ Ph)).trans V
  replace R:=(UE.1 H).1
  replace hi:=hia
  revert ad y;generalize W=Wb;intro y ad;obtain⟨W,rfl⟩:∃W,W=Wa:=⟨_,rfl⟩;refine⟨_,run_beginRound H (by rw[q]),?_⟩;have ah:(W.putObj (w.heap.size+1) (.loop {f .ready U8 with state:= .busy})).heap[w.heap.size+1]?=Ts (.loop {f .ready U8 with state:= .busy}):=World.putObj_heap_same R;have hk2:(W.putObj (w.heap.size+1) (.loop {f .ready U8 with state:= .busy})).heap[w.heap.size]?=Ts (.deferred (Ts [])):=(Vk Ph).trans V;have C:∀{S':Nat->Prop}(A:UN)(o:Obj),S' (w.heap.size+1)->Fr S' A (A.putObj (w.heap.size+1) o):=fun A o h=>Fr.putObj A _ o h;refine wpIn_mono (ad _ ⟨_,ah⟩ (hI _ _ _ hi (C _ _ (.inr (.inr rfl)))) (C _ _ rfl) Pm) ?_;have fin:∀(d:Option Code)(O:UN),Fr S (W.putObj (w.heap.size+1) (.loop {f .ready U8 with state:= .busy})) O->
    (Instr.endRound (w.heap.size+1) d).run P O= .ok (U1 d.isNone) (O.putObj (w.heap.size+1) (.loop (f (if d.isNone then .ready else .done) d)))/\
    (O.putObj (w.heap.size+1) (.loop (f (if d.isNone then .ready else .done) d))).heap[w.heap.size+1]?=Ts (.loop (f (if d.isNone then .ready else .done) d))/\
    (O.putObj (w.heap.size+1) (.loop (f (if d.isNone then .ready else .done) d))).heap[w.heap.size]?=Ts (.deferred (Ts [])):=fun d O s=>by
   have hl3:=(s.block _ (UE.1 ah).1 (fun x=>TD)).trans ah
   have hd3:=(s.block _ (UE.1 hk2).1 (fun x=>TD)).trans hk2
   have:=run_endRound (P:=P) d hl3
   rw[q]at this⊢
   exact⟨this,World.putObj_heap_same (UE.1 hl3).1,(Vk Ph).trans hd3⟩
  have keep:∀(O:UN)(o:Obj),Fr S (W.putObj (w.heap.size+1) (.loop {f .ready U8 with state:= .busy})) O->Fr (fun b=>¬K b) Wb (O.putObj (w.heap.size+1) o):=fun O o s=>by
   have hnd:¬K (w.heap.size+1):=fun x=>by have:=hdep _ x;omega
   exact(y.mono (fun b _ hb=>hSd b hb)).trans<|((C W _ hnd).trans (s.mono (fun b _ hb=>hSd b hb))).trans (C O _ hnd)
  rintro e a3 O G;cases e with
  |normal=>
   obtain⟨s,D⟩:=G;obtain⟨u,F,E⟩:=fin U8 O s;exact⟨_,_,u,.inl ⟨rfl,⟨hI _ _ _ D (C _ _ (.inr (.inr rfl))),F,E⟩,keep _ _ s⟩⟩
  |ret=>
   obtain⟨s,D⟩:=G;obtain⟨u,F,E⟩:=fin (Ts .ret) O s;exact⟨_,_,u,.inr ⟨rfl,.ret,M _ _ _ _ D (C _ _ (.inr (.inr rfl))),F,E⟩⟩
  |exit id=>
   obtain⟨s,D⟩:=G;obtain⟨u,F,E⟩:=fin (Ts (.exit id)) O s;exact⟨_,_,u,.inr ⟨rfl,.exit id,M _ _ _ _ D (C _ _ (.inr (.inr rfl))),F,E⟩⟩
  |goto t=>
   obtain⟨s,D⟩:=G;obtain⟨u,F,E⟩:=fin (Ts (.goto t)) O s;exact⟨_,_,u,.inr ⟨rfl,.goto t,M _ _ _ _ D (C _ _ (.inr (.inr rfl))),F,E⟩⟩
  |panic ch=>exact G.elim
  |outgrown=>exact G.elim
 rintro e W2⟨⟨v,rfl⟩,(⟨hi,H,V⟩|⟨k,hkl,c,hi,H,V⟩)⟩
 .exact⟨U8,_,ZH,ab _ (hI _ _ _ hi (Fr.putObj _ _ _ (.inr (.inr rfl)))) ((Vk Ph).trans V)⟩
 exact⟨Ts c,_,ZH,ac c k _ hkl (M c _ _ _ hi (Fr.putObj _ _ _ (.inr (.inr rfl)))) ((Vk Ph).trans V)⟩
def sq{α:Type}{g:Operand}{ps:Array Tmp}{assign body:Code}{Q:Exit->Act->UN->Prop}{a:Act}{w u H}(R:a.eval g= .func (.func u) #[] H)(O:∀args w,(Wu u args).run P w= .ok (.enter u args) w){enc:α->Array UV}{y:List α}{J:UN->Prop}{own j:Nat->Prop}(E:NH P u H enc y J own j)(C:∀o1 o2,J ((w.alloc o1).alloc o2))(r:∀b,own b->b<w.heap.size)(s:∀b,j b->b<w.heap.size)(G:∀x,(enc x).size=ps.size)(S:Nat->Prop)(D:∀b,S b->¬j b)(K:∀b,S b->b<w.heap.size)(I:Nat->UN->Prop)(q:Code->Nat->UN->Prop)(M:∀k A B,I k A->Fr (fun b=>own b\/b=w.heap.size\/b=w.heap.size+1) A B->I k B)(F:∀c k A B,q c k A->Fr (fun b=>own b\/b=w.heap.size\/b=w.heap.size+1) A B->q c k B)(L:I 0 w)(d:∀(l k:Nat)(x:α)(W:UN),y[k]?=Ts x->l=w.heap.size+1->w.heap.size+2<=W.heap.size->I k W->
   assign.wpIn (Wx.inRound l) 0 P (Exit.then (afM P S I q l k body W) (fun _ _ _=>False)) {tmps:=(ps.zip (enc x)).foldl (fun t(p,v)=>t.setIfInBounds p v) a.tmps,defers:=[]} W)(f:∀(W:UN),I y.length W->W.heap[w.heap.size]?=Ts (.deferred (Ts []))->Q .normal {a with defers:={target:= .collected w.heap.size,args:=#[]}::a.defers} W)(o:∀(c:Code)(k:Nat)(W:UN),k<=y.length->q c k W->W.heap[w.heap.size]?=Ts (.deferred (Ts []))->
   c.wpIn Wx 0 P Q {a with defers:={target:= .collected w.heap.size,args:=#[]}::a.defers} W):
  (Code.rangeFunc g ps assign body).wpIn Wx 0 P Q a w:=
 xr R O E C r s G S D (fun b h=>by have:=K b h;omega) I q M F L (fun l k x W m T z hi=>wpIn_mono (d l k x W m T z hi) (fun e a1 U h=>by
  cases e with
  |normal=>exact⟨h.1,h.2.1,fun N _=>h.2.2 N⟩
  |_=>exact h)) f o
end
abbrev au:=List UInt8
def lw(r:Int):Bool:=(decide (97<=r)&&decide (r<=122))||(decide (48<=r)&&decide (r<=57))
def nR(r:Int):Bool:=r==45||lw r
def ae6(n k:Nat)(r:Int):Bool:=if k+1=n then lw r else if k=0 then lw r||r==95 else nR r
def df(l:au):Bool:=decide (1<=l.length)&&decide (l.length<=16)&&(We l.length).all fun k=>ae6 l.length k ((l.getD k 0).toNat:Int)
def cut:au->List au
 |[]=>[[]]
 |c::t=>if c=46 then[]::cut t else match cut t with
  |[]=>[[c]]
  |h::r=>(c::h)::r
def jH(l:au)(b c:Nat):Bool:=decide (l.length<=c)&&decide ((cut l).length<=b)&&(cut l).all df
def rP(e:Int)(b:Bool):Int:=if b then 0 else e
def KX(e):rP e true=0:=rfl
def Ft(e):rP e false=e:=rfl
def gX(l:au):Bool:=jH l 8 64
def fA:au->au
 |[]=>[]
 |c::t=>if c=46 then t else fA t
def up(l:au):au:=if gX l then fA l else[]
def dy(l:au):au×Bool×Bool:=
 if gX l then(l,false,true)else
 if Lib.hasPrefix l [42,46]then(l.drop 2,true,jH (l.drop 2) 7 62)else(l,false,false)
def oq:Nat->au->List au
 |0,_=>[]
 |n+1,l=>if up l=[]then[]else up l::oq n (up l)
def ie(s o:au):Bool:=(oq (s.length+1) s).contains o
def cD(l:au):Bool:=decide (3<=l.length)&&decide (l.length<=64)&&l.getD 0 0==42&&l.getD 1 0==46&&gX (l.drop 2)&&decide ((cut (l.drop 2)).length<=7)
def eQ(l:au):au:=if cD l then l.drop 2 else[]
def cX(l:au):Bool:=cD l||gX l
def b9(b s:au):Bool:=if !gX s then false else if cD b then ie s (eQ b)else b==s
def bT(p q:au):Bool:=if !cX p|| !cX q then false else if !cD p then b9 q p else cD q&&(eQ p==eQ q||ie (eQ p) (eQ q))
def wg(l:au):cut l≠[]:=by
 cases l with
 |nil=>simp[cut]
 |cons c t=>
  unfold cut;split
  .simp
  split<;>simp
def rU:∀(l:au),XS l 46=-1->cut l=[l]
 |[],_=>rfl
 |c::t,h=>by
  unfold XS at h;by_cases J:c=46
  .simp[J]at h
  have b:(c==46)=false:=by simpa using J
  rw[b]at h;by_cases f:XS t 46=-1
  .unfold cut;rw[if_neg J,rU t f]
  have:=Lib.indexByte_ge t 46;have d:(XS t 46==-1)=false:=Rz;rw[d]at h;(simp at h<;>omega)
def rM:∀(l:au)(i:Nat),XS l 46=i->cut l=l.take i::cut (l.drop (i+1))
 |[],i,h=>by simp[XS]at h
 |c::t,i,h=>by
  unfold XS at h;by_cases J:c=46
  .simp[J]at h;obtain rfl:i=0:=Ph;simp[cut,J]
  have b:(c==46)=false:=by simpa using J
  rw[b]at h;by_cases f:XS t 46=-1
  .rw[f]at h;(simp at h<;>omega)
  have S:=Lib.indexByte_ge t 46;have d:(XS t 46==-1)=false:=Rz;rw[d]at h;simp at h;obtain⟨j,rfl⟩:∃j,i=j+1:=⟨i-1,Ph⟩;have:=rM t j Ph;rw[cut,if_neg J,this];simp
def gK:∀(l:au),(cut l).length=YY l 46+1
 |[]=>rfl
 |c::t=>by
  have b:=gK t;unfold cut YY;unfold YY at b;by_cases J:c=46
  .subst J;simp[b]
  rw[if_neg J,List.count_cons_of_ne (Ne.symm (fun h=>J h.symm))];split
  .rename_i h;exact absurd h (wg t)
  rename_i h;rw[h]at b;simpa using b
def Ic(r:ByteArray)(i):r.extract 0 i=⟨(r.data.toList.take i).toArray⟩:=by
 apply ByteArray.ext;apply Array.ext';simp[ByteArray.data_extract,Array.toList_extract,List.extract_eq_take_drop]
def IZ(r:ByteArray)(i):r.extract i r.size=⟨(r.data.toList.drop i).toArray⟩:=by
 apply ByteArray.ext;apply Array.ext';have:=Lib.extract_to_end r i;simpa using this
def aiM(r:ByteArray):(⟨r.data.toList.toArray⟩:ByteArray)=r:=by cases r;simp
def BO(l:au)(h:fA l≠[]):(fA l).length<l.length:=by
 induction l with
 |nil=>simp[fA]at h
 |cons c t b=>
  unfold fA at h⊢;split
  .simp
  rename_i J;rw[if_neg J]at h;have:=b h;simp;omega
def vh(l:au)(h:up l≠[]):(up l).length<l.length:=by
 unfold up at h⊢;split
 .rename_i hi;rw[if_pos hi]at h;exact BO l h
 rename_i hi;rw[if_neg hi]at h;exact absurd rfl h
def wl:∀(n m:Nat)(l:au),l.length<n->l.length<m->oq n l=oq m l
 |0,_,_,h,_=>absurd h (YG _)
 |_,0,_,_,h=>absurd h (YG _)
 |n+1,m+1,l,h1,c=>by
  unfold oq;split
  .rfl
  rename_i X
  have:=vh l X;rw[wl n m _ Ph Ph]
def Ga(s:au)(h:up s≠[]):oq (s.length+1) s=up s::oq ((up s).length+1) (up s):=by
 have:=vh s h;rw[oq,if_neg h,wl _ ((up s).length+1) _ Ph Ph]
def JC(s:au)(h:up s=[]):oq (s.length+1) s=[]:=by rw[oq,if_pos h]
def gC{l:au}:gX l=true↔l.length<=64/\(cut l).length<=8/\∀x∈cut l,df x=true:=by
 unfold gX jH;simp only[V7,decide_eq_true_eq,WE];constructor
 .rintro⟨⟨a,b⟩,c⟩;exact⟨a,b,c⟩
 rintro⟨a,b,c⟩;exact⟨⟨a,b⟩,c⟩
def rz(x:au):UV:=UH ⟨x.toArray⟩
def infoStr:(UB.info? 9).map (fun i=>(i.zero,i.size,i.bytes))=Ts (Ts (UH ⟨#[]⟩),1,16):=Pg
section
def Wd(r:Option Nat):Fence:={Wx with round:=r}
section
variable {P:Wn} {ops:Array Xd} {Q:Exit->Act->UN->Prop} {S:UN->Prop} {r:Option Nat}
def Is(v:UV)(S:UN->Prop)(u:UV)(b:UN):Prop:=u=v/\S b
def aeX(G:UV->UN->Prop)(e:Xo)(b:UN):Prop:=∃v,e=UO v/\G v b
def aD{v}{S:UN->Prop}{w}(h:S w):Is v S v w:=⟨rfl,h⟩
def aH{v}{S:UN->Prop}{w}(h:S w):aeX (Is v S) (UO v) w:=⟨v,rfl,rfl,h⟩
def ak(P:Wn)(o:Xd)(a:Act)(w:UN)(G:UV->UN->Prop):Prop:=
 match (execOp a.eval o).run P w with
 | .ok (.value v) b=>G v b
 | .ok .skip b=>G VM b
 | .ok (.enter f args) b=>VB P f args b (aeX G)
 |_=>False
def agX(P:Wn)(ops:Array Xd)(S:UN->Prop)(o:Xd)(a:Act)(v:UV):Prop:=
 ∀w,S w->if Vr o (Xs ops a.tmps)=true then ak P o a w (Is v S)else v=VM
def eV(P:Wn)(ops:Array Xd)(S:UN->Prop):List Xd->Act->(Act->Prop)->Prop
 |[],a,F=>F a
 |o::os,a,F=>∃v,agX P ops S o a v/\eV P ops S os (a.put o.dst v) F
def ax{o os}{a:Act}{v}{F:Act->Prop}(b:Vr o (Xs ops a.tmps)=true)(h:∀w,S w->ak P o a w (Is v S))(z:eV P ops S os (a.put o.dst v) F):eV P ops S (o::os) a F:=
 ⟨v,fun w l=>by rw[if_pos b];exact h w l,z⟩
def aw{o os}{a:Act}{F:Act->Prop}(b:Vr o (Xs ops a.tmps)=false)(z:eV P ops S os (a.put o.dst VM) F):eV P ops S (o::os) a F:=
 ⟨VM,fun w _=>by rw[b];rfl,z⟩
def gv(b c:Bool)(v:UV):UV:=if b=c then v else VM
def aB{b c}(h:b=c)(v):gv b c v=v:=if_pos h
attribute [go_sem] aB
def rN{o:Xd}{a:Act}{g}{c b:Bool}(S:o.guard=Ts (g,c))(U:Xs ops a.tmps g=Ts b):Vr o (Xs ops a.tmps)=(b==c):=by
 unfold Vr;rw[S];show(Xs ops a.tmps g==Ts c)=_;rw[U];cases b<;>cases c<;>rfl
def av{o:Xd}{os}{a:Act}{g c b v}{F:Act->Prop}(d:o.guard=Ts (g,c))(U:Xs ops a.tmps g=Ts b)(h:b=c->∀w,S w->ak P o a w (Is v S))(z:eV P ops S os (a.put o.dst (gv b c v)) F):eV P ops S (o::os) a F:=by
 refine⟨_,fun w l=>?_,z⟩;rw[rN d U];by_cases e:b=c
 .rw[if_pos Zar,aB e];exact h e w l
 rw[if_neg Zar];exact if_neg e
def ar{o:Xd}{os}{a:Act}{g:Nat}{d:Tmp}{c b p1 b1 v}{F:Act->Prop}(m:o.guard=Ts (g,c))(y:(ops[g]?).bind (·.dst)=Ts d)(U:a.tmps[d]?=Ts (gv b1 p1 (U1 b)))(h:b1=p1->b=c->∀w,S w->ak P o a w (Is v S))(z:eV P ops S os (a.put o.dst (gv b1 p1 (gv b c v))) F):eV P ops S (o::os) a F:=by
 refine⟨_,fun w l=>?_,z⟩;have f:Xs ops a.tmps g=if b1=p1 then Ts b else U8:=by
  unfold Xs;rw[y];show(match a.tmps[d]? with|some (U1 b)=>Ts b|_=>U8)=_
  rw[U];by_cases e:b1=p1
  .rw[aB e,if_pos e]
  rw[if_neg e];unfold gv;rw[if_neg e];rfl
 by_cases am:b1=p1
 .rw[if_pos am]at f;rw[rN m f,aB am];by_cases e:b=c
  .rw[if_pos Zar,aB e];exact h am e w l
  rw[if_neg Zar];exact if_neg e
 rw[if_neg am]at f;have p:Vr o (Xs ops a.tmps)=false:=by unfold Vr;rw[m];show(Xs ops a.tmps g==Ts c)=false;rw[f];rfl
 rw[p];exact if_neg am
def aj{o:Xd}{os}{a:Act}{g f b b2 d}{c x:Operand}{F:Act->Prop}(j:o.guard=Ts (g,f))(p:o.op= .pick c x (.const (U1 false)))(U:Xs ops a.tmps g=Ts b)(J:a.eval c=gv b f (U1 b2))(m:a.eval x=gv b f (gv b2 true (U1 d)))(z:eV P ops S os (a.put o.dst (gv b f (U1 (b2&&d)))) F):eV P ops S (o::os) a F:=
 av j U (fun e w l=>by
  unfold ak execOp;simp only[p,J,m,aB e]
  cases b2<;>exact⟨rfl,l⟩) z
def az{o:Xd}{os}{a:Act}{c x:Operand}{b d}{F:Act->Prop}(f:o.guard=U8)(g:o.op= .pick c x (.const (U1 false)))(J:a.eval c=U1 b)(m:a.eval x=gv b true (U1 d))(z:eV P ops S os (a.put o.dst (U1 (b&&d))) F):eV P ops S (o::os) a F:=by
 exact US
def aF{o:Xd}{os}{a:Act}{c x:Operand}{b d}{F:Act->Prop}(f:o.guard=U8)(g:o.op= .pick c (.const (U1 true)) x)(J:a.eval c=U1 b)(m:a.eval x=gv b false (U1 d))(z:eV P ops S os (a.put o.dst (U1 (b||d))) F):eV P ops S (o::os) a F:=by
 exact US
def aA{a}{F:Act->Prop}(h:F a):eV P ops S [] a F:=h
def bf(ops:Array Xd)(j i:Nat):Bool:=((ops[j]?).map fun o=>o.after.any fun e=>Region.binds .any e&&e.on==i).getD false
def lm(ops:Array Xd):Bool:=
 (We ops.size).all fun i=>(We ops.size).all fun j=>
  match ops[i]?,ops[j]? with
  |some b,Ts c=>
   match c.dst with
   |none=>true
   |some d=>
    (i==j||b.dst !=Ts d)&&
    (!(b.looksAt ops).contains d||(if j<i then bf ops i j else if i<j then bf ops j i else true))
  |_,_=>true
def kH(h:lm ops=true){i j}{g l:Xd}(hi:ops[i]?=Ts g)(Q:ops[j]?=Ts l){d:Tmp}(y:l.dst=Ts d):
  (i=j\/g.dst≠Ts d)/\(d∈g.looksAt ops->(j<i->bf ops i j=true)/\(i<j->bf ops j i=true)):=by
 have b:=(UE.1 hi).1;have f:=(UE.1 Q).1;have h1:=WE.1 h i (by simpa using b);have c:=WE.1 h1 j Rz;simp only[hi,Q,y,V7,WU,beq_iff_eq,bne_iff_ne,Bool.not_eq_true']at c;refine⟨c.1,fun K=>?_⟩;rcases c.2 with A|A
 .rw[<-Bool.not_eq_true,List.contains_iff_mem]at A;exact absurd K A
 refine⟨fun R=>by simpa [R]using A,fun R=>?_⟩;have:¬j<i:=Ph;simpa [this,R]using A
structure p5(ops:Array Xd)(a0:Act)(vs:List UV)(L:Nat->Prop)(a:Act):Prop where
 defers:a.defers=a0.defers
 size:a.tmps.size=a0.tmps.size
 old:∀t,(∀(i:Nat)o,L i->ops[i]?=Ts o->o.dst≠Ts t)->a.tmps[t]?=a0.tmps[t]?
 new:∀(i:Nat)o v t,L i->ops[i]?=Ts o->o.dst=Ts t->vs[i]?=Ts v->t<a0.tmps.size->a.tmps[t]?=Ts v
def p5.put{a0 vs}{L:Nat->Prop}{a}(h:p5 ops a0 vs L a)(l:lm ops=true){i:Nat}{o:Xd}{v}(m:ops[i]?=Ts o)(q:vs[i]?=Ts v):
  p5 ops a0 vs (fun k=>L k\/k=i) (a.put o.dst v):=by
 cases y:o.dst with
 |none=>
  refine⟨h.defers,h.size,fun t f=>h.old t (fun k ok g=>f k ok (.inl g)),fun k ok u t g c b X f=>?_⟩;rcases g with g|rfl
  .exact h.new k ok u t g c b X f
  rw[m]at c;cases c;rw[y]at b;cases b
 |some d=>
  refine⟨h.defers,by simp[Ua,h.size],fun t f=>?_,fun k ok u t g c b X f=>?_⟩
  .have zs:d≠t:=fun e=>f i o (.inr rfl) m (by rw[y,e]);simp only[Ua,Wg zs];exact h.old t (fun k ok g=>f k ok (.inl g))
  by_cases j:k=i
  .subst j;rw[m]at c;cases c;rw[y]at b;cases b;rw[q]at X;cases X;simp only[Ua];rw[Array.getElem?_setIfInBounds_self];rw[if_pos (by rw[h.size];exact f)]
  have p:L k:=g.resolve_right j;have zs:d≠t:=fun e=>by
   rcases(kH l c m y).1 with h1|h1
   .exact j h1
   exact h1 (by rw[b,e])
  simp only[Ua,Wg zs];exact h.new k ok u t p c b X f
def Fo{a0}{vs:List UV}{L:Nat->Prop}{a b:Act}(r:lm ops=true){i}{o:Xd}(J:ops[i]?=Ts o)(H:vs.length=ops.size)(C:p5 ops a0 vs L a)(hb:p5 ops a0 vs (fun k=>k<i) b)(z:¬L i)(m:∀j,bf ops i j=true->L j)(g:∀j,L j->bf ops j i=true->L i):
  ∀t∈o.looksAt ops,a.tmps[t]?=b.tmps[t]?:=by
 intro t K;by_cases D:∃(j:Nat)(x:Xd),ops[j]?=Ts x/\x.dst=Ts t
 .obtain⟨j,x,Q,y⟩:=D;have F:=(UE.1 Q).1;obtain⟨_,c⟩:=kH r J Q y;obtain⟨A,G⟩:=c K;have q:∀(k:Nat)ok,ops[k]?=Ts ok->ok.dst=Ts t->k=j:=fun k ok B d=>by
   rcases(kH r B Q y).1 with e|e
   .exact e
   exact absurd d e
  by_cases u:j<i
  .have s:=m j (A u);have E:vs[j]?=Ts (vs[j]'Ph):=V8 Ph;by_cases l:t<a0.tmps.size
   .rw[C.new j x _ t s Q y E l,hb.new j x _ t u Q y E l]
   have am:a.tmps[t]?=U8:=WB (by rw[C.size];exact Nat.le_of_not_lt l);have I:b.tmps[t]?=U8:=WB (by rw[hb.size];exact Nat.le_of_not_lt l);rw[am,I]
  have s:¬L j:=fun p=>by
   by_cases e:i=j
   .subst e;exact z p
   exact z (g j p (G Ph))
  rw[C.old t (fun k ok B f d=>s (q k ok f d▸B)),hb.old t (fun k ok B f d=>u (q k ok f d▸B))]
 rw[C.old t (fun k ok _ f d=>D ⟨k,ok,f,d⟩),hb.old t (fun k ok _ f d=>D ⟨k,ok,f,d⟩)]
def Lo{a b:Act}{t:Tmp}(h:a.tmps[t]?=b.tmps[t]?):a.eval (.tmp t)=b.eval (.tmp t):=by
 simp[Act.eval,h]
def iJ{a b:Act}{o:Xd}(d:∀cs c,o.op≠ .select cs c)(h:∀t∈o.looksAt ops,a.tmps[t]?=b.tmps[t]?):execOp a.eval o=execOp b.eval o:=by
 refine execOp_congr o d fun x m=>?_;cases x with
 |tmp t=>exact Lo (h t (List.mem_append_left _ (List.mem_filterMap.2 ⟨.tmp t,by simpa using m,rfl⟩)))
 |_=>rfl
def jd{a b:Act}{o:Xd}(h:∀t∈o.looksAt ops,a.tmps[t]?=b.tmps[t]?):Vr o (Xs ops a.tmps)=Vr o (Xs ops b.tmps):=by
 unfold Vr;cases S:o.guard with
 |none=>rfl
 |some g=>
  obtain⟨j,f⟩:=g;have:Xs ops a.tmps j=Xs ops b.tmps j:=by
   unfold Xs;cases y:(ops[j]?).bind (·.dst)with
   |none=>rfl
   |some d=>
    have K:d∈o.looksAt ops:=by unfold Oper.looksAt;rw[S];simp[y]
    show(match a.tmps[d]? with|some (U1 b)=>Ts b|_=>U8)=(match b.tmps[d]? with|some (U1 b)=>Ts b|_=>U8)
    rw[h d K]
  simp only[this]
def DM{o a w}{G:UV->UN->Prop}(h:ak P o a w G){K:Act->UN->Prop}(H:∀v b,G v b->K (a.put o.dst v) b):o.wp P a w K Q:=by
 unfold ak at h;unfold Oper.wp;split at h
 .exact Zb4
 .exact Zb4
 .rename_i f args b e
  rw[e];refine Calls.mono h ?_;rintro e c⟨v,rfl,S⟩;exact H _ _ S
 exact h.elim
def mI{o}{a b:Act}(h:execOp a.eval o=execOp b.eval o){w}{G:UV->UN->Prop}(S:ak P o b w G):ak P o a w G:=by
 unfold ak at*;rw[h];exact S
def Fb{W i}(h:i∈Ya .any ops W):(∃o,ops[i]?=Ts o)/\W.getD i true=false/\∀j,bf ops i j=true->W.getD j false=true:=by
 unfold Ya at h;obtain⟨h1,c⟩:=List.mem_filter.1 h;have hi:i<ops.size:=Zbu;have d:ops[i]?=Ts ops[i]:=Vy hi;rw[V7,d]at c;obtain⟨A,f⟩:=c;refine⟨⟨_,d⟩,by simpa using A,fun j Q=>?_⟩;unfold bf at Q;rw[d]at Q;simp only[Wm,Yu,Array.any_eq_true,Array.all_eq_true]at Q f;obtain⟨x,m,b⟩:=Q;have:=f x m;rw[V7,beq_iff_eq]at b;rw[b.1,b.2]at this;simpa using this
def qR(ops:Array Xd):Bool:=(We ops.size).all fun i=>(We ops.size).all fun j=> !bf ops i j||decide (j<i)
def ld(h:qR ops=true){i j}(hi:i<ops.size)(Q:j<ops.size)(b:bf ops i j=true):j<i:=by
 have h1:=WE.1 h i RM;have c:=WE.1 h1 j (by simpa using Q);simpa [b]using c
def nP:∀(l:List Bool)(i:Nat)(h:i<l.length),l[i]=false->(l.set i true).count false+1=l.count false
 |[],i,h,_=>QX
 |b::l,0,h,hb=>by
  have:b=false:=hb;subst this;simp
 |b::l,i+1,h,hb=>by
  have c:=nP l i QJ (by simpa using hb);simp only[List.set_cons_succ,List.count_cons];omega
def rL{W:Array Bool}(cf:qR ops=true)(d:W.size=ops.size)(b:∀i j,bf ops i j=true->j<ops.size)(u:Ya .any ops W=[]):
  ∀i,i<ops.size->W[i]?=Ts true:=by
 intro i;induction i using Nat.strongRecOn with
 |_ i l=>
  intro hi;cases p:W[i]'Ph with
  |true=>rw[Vy Ph,p]
  |false=>
   exfalso;have f:ops[i]?=Ts ops[i]:=Vy hi;have:i∈Ya .any ops W:=by
    unfold Ya;refine List.mem_filter.2 ⟨RM,?_⟩;rw[V7,f];refine⟨by simp[Array.getD,d,hi,p],?_⟩;simp only[Wm,Yu,Array.all_eq_true];intro x m;cases hb:Region.binds .any ops[i].after[x]with
    |false=>rfl
    |true=>
     have g:bf ops i ops[i].after[x].on=true:=by
      unfold bf;rw[f];simp only[Wm,Yu,Array.any_eq_true];exact⟨x,m,by simp[hb]⟩
     have c:=b i _ g;have:=l _ (ld cf hi c g) c;simp[Array.getD_eq_getD_getElem?,this]
   rw[u]at this;cases this
def ahM(B:List XR->UN->Prop)(G:UV->UN->Prop)(e:Xo)(w:UN):Prop:=(∃v,e=UO v/\G v w)\/∃c,e= .panicked c/\B c w
def aN(P:Wn)(o:Xd)(a:Act)(w:UN)(B:List XR->UN->Prop)(G:UV->UN->Prop):Prop:=
 match (execOp a.eval o).run P w with
 | .ok (.value v) b=>G v b
 | .ok .skip b=>G VM b
 | .ok (.enter f args) b=>VB P f args b (ahM B G)
 |_=>False
def ak.toB{o a w}{B:List XR->UN->Prop}{G:UV->UN->Prop}(h:ak P o a w G):aN P o a w B G:=by
 unfold ak at h;unfold aN;split at h
 .exact h
 .exact h
 .exact Calls.mono h fun e b⟨v,h1,c⟩=>Or.inl ⟨v,h1,c⟩
 exact h.elim
def aN.mono{o a w}{B:List XR->UN->Prop}{G H:UV->UN->Prop}(h:aN P o a w B G)(hi:∀v b,G v b->H v b):aN P o a w B H:=by
 unfold aN at h⊢;split at h
 .exact hi _ _ h
 .exact hi _ _ h
 .exact Calls.mono h fun e b d=>Or.elim d (fun⟨v,h1,c⟩=>Or.inl ⟨v,h1,hi _ _ c⟩) Or.inr
 exact h.elim
def n9{o}{a b:Act}{w}{B:List XR->UN->Prop}{G:UV->UN->Prop}(c:(execOp a.eval o)=(execOp b.eval o))(h:aN P o b w B G):aN P o a w B G:=by
 unfold aN at h⊢;rw[c];exact h
def vY{o:Xd}{a w}{B:List XR->UN->Prop}{G:UV->UN->Prop}(y:∀c,o.op≠ .defer c)(g:∀c w,B c w->Q (.panic c) a w)(h:aN P o a w B G){K:Act->UN->Prop}(H:∀v b,G v b->K (a.put o.dst v) b):o.wpIn (Wd r) 0 P a w K Q:=by
 refine⟨fun _ _=>trivial,?_⟩;show o.uponIn (Wd r) 0 P a K Q ((o.semAt r a.eval).run P w)
 rw[Oper.semAt_eq _ _ _ y];unfold aN at h;split at h
 .exact Zb4
 .exact Zb4
 .rename_i f args b e
  rw[e];refine⟨fun h=>by simp[Wd,Wx]at h,?_⟩;refine CallsIn.mono (F:=Wd r) (callsIn_wide.2 h) ?_;rintro e d(⟨v,rfl,S⟩|⟨c,rfl,hb⟩)
  .exact H _ _ S
  exact g _ _ hb
 exact h.elim
def IW(ops:Array Xd):Bool:=ops.all fun o=>match o.op with| .defer _=>false|_=>true
def aaI(b:((We ops.size).all fun i=>((ops[i]?).map fun o=>o.after.all fun e=>decide (e.on<ops.size)).getD true)=true){i j}(d:bf ops i j=true):j<ops.size:=by
 unfold bf at d;cases f:ops[i]? with
 |none=>rw[f]at d;cases d
 |some o=>
  rw[f]at d;simp only[Wm,Yu,Array.any_eq_true]at d;obtain⟨x,m,c⟩:=d;rw[V7,beq_iff_eq]at c;have h1:=WE.1 b i (by simpa using(UE.1 f).1);rw[f]at h1;simp only[Wm,Yu,Array.all_eq_true]at h1;have:=h1 x m;rw[<-c.2];simpa using this
def E5(b:IW ops=true):∀(i:Nat)(o:Xd)c,ops[i]?=Ts o->o.op≠ .defer c:=fun i o c d e=>by
 obtain⟨hi,rfl⟩:=UE.1 d;have:=Array.all_eq_true.1 b i hi;rw[e]at this;cases this
def CW{n}:(fun k:Nat=>(Array.replicate n false)[k]?=Ts true)=fun _=>False:=funext fun k=>propext (Iff.intro (fun h=>by
 rw[Array.getElem?_replicate]at h
 split at h<;>cases h) (fun h=>h.elim))
def aK(ds:List (Option Tmp))(a0:Act)(vs:List UV):Nat->Act
 |0=>a0
 |i+1=>(aK ds a0 vs i).put (ds.getD i U8) (vs.getD i VM)
def rC{ds:List (Option Tmp)}(b:ops.toList.map (·.dst)=ds){i}{o:Xd}(c:ops[i]?=Ts o):ds.getD i U8=o.dst:=by
 rw[<-b,Uj,VU,YN,c];rfl
def AB{vs:List UV}{i}(h:i<vs.length):vs[i]?=Ts (vs.getD i VM):=by
 rw[Uj,V8 h];rfl
def kF{ds:List (Option Tmp)}(c:ops.toList.map (·.dst)=ds){a0}{vs:List UV}(b:lm ops=true)(p:vs.length=ops.size):∀i,i<=ops.size->p5 ops a0 vs (fun k=>k<i) (aK ds a0 vs i)
 |0,_=>⟨rfl,rfl,fun _ _=>rfl,fun i _ _ _ hi=>Ph⟩
 |i+1,h=>by
  have f:ops[i]?=Ts (ops[i]'Ph):=Vy Ph;have:=(kF (a0:=a0) c b p i Ph).put b f (AB Ph);rw[aK,rC c f];exact⟨this.defers,this.size,fun t g=>this.old t (fun k ok o=>g k ok (by have d:k<i\/k=i:=o;show k<i+1;omega)),fun k ok u t o=>this.new k ok u t (by have d:k<i+1:=o;show k<i\/k=i;omega)⟩
def p5.setG{a0 vs}{L:Nat->Prop}{a i}(h:p5 ops a0 vs L a)(hi:¬L i)(v):p5 ops a0 (vs.set i v) L a:=
 ⟨h.defers,h.size,h.old,fun k o u t b d y X c=>h.new k o u t b d y (by rwa[Vl (fun e=>hi (by rw[e];exact b))]at X) c⟩
structure ahL(ops:Array Xd)(T:(Nat->Prop)->List UV->UN->Prop)(a0:Act)(vs:List UV)(listed:Array Bool)(a:Act)(w:UN):Prop where
 len:vs.length=ops.size
 world:T (fun k=>listed[k]?=Ts true) vs w
 size:listed.size=ops.size
 agree:p5 ops a0 vs (fun k=>listed[k]?=Ts true) a
 closed:∀i j,listed[i]?=Ts true->bf ops i j=true->listed[j]?=Ts true
def DR(ops:Array Xd):Bool:=lm ops&&qR ops&&((We ops.size).all fun i=>((ops[i]?).map fun o=>o.after.all fun e=>decide (e.on<ops.size)).getD true)&&Region.noSelect ops&&IW ops&&decide (0<ops.size)
def lV(h:DR ops=true):lm ops=true/\qR ops=true/\(∀i j,bf ops i j=true->j<ops.size)/\Region.noSelect ops=true/\(∀(i:Nat)(o:Xd)c,ops[i]?=Ts o->o.op≠ .defer c)/\0<ops.size:=by
 simp only[DR,V7,decide_eq_true_eq]at h;obtain⟨⟨⟨⟨⟨h1,g⟩,A⟩,b⟩,d⟩,f⟩:=h;exact⟨h1,g,fun i j l=>aaI A l,b,E5 d,f⟩
def rT{T:(Nat->Prop)->List UV->UN->Prop}{id}{a0:Act}{w0:UN}{ds:List (Option Tmp)}(hds:ops.toList.map (·.dst)=ds)(K:P.follows .mixedOrders=true)(C:DR ops=true){B:List XR->UN->Prop}(hB:∀c a' w,a'.defers=a0.defers->B c w->Q (.panic c) a' w)(h0:∀vs,T (fun _=>False) vs w0.drew)(F:∀(i:Nat)(o:Xd),ops[i]?=Ts o->∀(L:Nat->Prop)(vs:List UV)(w:UN),vs.length=ops.size->T L vs w->¬L i->(∀j,bf ops i j=true->L j)->(∀j k,L j->bf ops j k=true->L k)->
   if Vr o (Xs ops (aK ds a0 vs i).tmps)=true then aN P o (aK ds a0 vs i) w B (fun v X=>T (fun k=>L k\/k=i) (vs.set i v) X)else T (fun k=>L k\/k=i) (vs.set i VM) w)(ad:∀L vs w,vs.length=ops.size->(∀i,i<ops.size->L i)->T L vs w->Q .normal (aK ds a0 vs ops.size) w):(YK id ops true).wpIn (Wd r) 0 P Q a0 w0:=by
 obtain⟨q,cf,V,hsel,hdef,-⟩:=lV C;have done:∀(W:Array Bool)(a:Act)(w:UN)(vs:List UV),ahL ops T a0 vs W a w->(∀i,i<ops.size->W[i]?=Ts true)->Q .normal a w:=fun W a w vs d l=>by
  have s:=kF (a0:=a0) hds q d.len ops.size (UY _);have:a=aK ds a0 vs ops.size:=by
   generalize aK ds a0 vs ops.size=a' at s;obtain⟨t1,d1⟩:=a;obtain⟨t2,d2⟩:=a';have z:t1.size=t2.size:=d.agree.size.trans s.size.symm;have y:d1=d2:=d.agree.defers.trans s.defers.symm;have ht:t1=t2:=by
    apply Array.ext_getElem?;intro t;by_cases G:∃(j:Nat)(oj:Xd),ops[j]?=Ts oj/\oj.dst=Ts t
    .obtain⟨j,oj,O,ah⟩:=G;have M:=(UE.1 O).1;have hvj:=AB (vs:=vs) (i:=j) (by rw[d.len];exact M);by_cases hts:t<a0.tmps.size
     .exact(d.agree.new j oj _ t (l j M) O ah hvj hts).trans (s.new j oj _ t M O ah hvj hts).symm
     rw[WB (by have:=d.agree.size;simp only at this;omega),WB (by have:=s.size;simp only at this;omega)]
    exact(d.agree.old t (fun k ok _ C I=>G ⟨k,ok,C,I⟩)).trans (s.old t (fun k ok _ C I=>G ⟨k,ok,C,I⟩)).symm
   rw[ht,y]
  rw[this];exact ad _ vs w d.len l d.world
 suffices H:∀(fuel:Nat)(W:Array Bool)(a:Act)(w:UN)(vs:List UV),(W.toList.count false)<=fuel->ahL ops T a0 vs W a w->wpAnyIn (Wd r) 0 P .any ops Q fuel W a w by
  refine wpIn_region_any K (H ops.size _ a0 _ (List.replicate ops.size VM) Pm ⟨Pm,by rw[CW];exact h0 _,Pm,⟨rfl,rfl,fun _ _=>rfl,fun i _ _ _ hi=>?_⟩,fun i j hi=>?_⟩)<;>(rw[Array.getElem?_replicate]at hi;split at hi<;>cases hi)
 intro fuel;induction fuel with
 |zero=>
  intro W a w vs J d;have l:∀i,i<ops.size->W[i]?=Ts true:=fun i hi=>by
   have x:i<W.size:=by rw[d.size];exact hi
   cases p:W[i]'x with
   |true=>rw[Vy x,p]
   |false=>
    have h1:List.count false W.toList=0:=Ph;have:=List.count_eq_zero.1 h1;exact absurd (by rw[<-p];simp:false∈W.toList) this
  refine⟨?_,done W a w vs d l⟩;unfold Ya;rw[List.filter_eq_nil_iff];intro i hi;have:=l i RM;simp[Array.getD_eq_getD_getElem?,this]
 |succ fuel ih=>
  intro W a w vs J d;refine⟨fun hr=>done W a w vs d (rL cf d.size V hr),fun i hi=>?_⟩;obtain⟨⟨o,Y⟩,p,hr⟩:=Fb hi;have x:=(UE.1 Y).1;have g:i<W.size:=by rw[d.size];exact x
  have hlf:W[i]'g=false:=by simpa [Array.getD,g]using p
  have U:¬W[i]?=Ts true:=by rw[Vy g,hlf];simp
  have f:∀j,bf ops i j=true->W[j]?=Ts true:=fun j O=>by
   have:=hr j O;rw[Array.getD_eq_getD_getElem?]at this;cases h:W[j]? with
   |none=>rw[h]at this;cases this
   |some b=>rw[h]at this;simp at this;rw[this]
  have hag:=kF (a0:=a0) hds q d.len i Ph;have m:=Fo q Y d.len d.agree hag U f (fun j O G=>d.closed j i O G);have E:∀k,(W.setIfInBounds i true)[k]?=Ts true↔(W[k]?=Ts true\/k=i):=fun k=>by
   by_cases S:k=i
   .subst S;rw[Array.getElem?_setIfInBounds_self,if_pos g];simp
   rw[Wg (fun e=>S e.symm)];simp[S]
  have A:∀v X,T (fun k=>W[k]?=Ts true\/k=i) (vs.set i v) X->wpAnyIn (Wd r) 0 P .any ops Q fuel (W.setIfInBounds i true) (a.put o.dst v) X:=fun v X R=>by
   refine ih _ _ _ (vs.set i v) ?_ ⟨by rw[List.length_set];exact d.len,by rw[show(fun k=>(W.setIfInBounds i true)[k]?=Ts true)=fun k=>(W[k]?=Ts true\/k=i)from funext fun k=>propext (E k)];exact R,by simp[d.size],?_,fun k j Z G=>?_⟩
   .have hcnt:List.count false (W.setIfInBounds i true).toList+1=List.count false W.toList:=by
     rw[Array.toList_setIfInBounds];exact nP _ i Zbs (by simpa using hlf)
    omega
   .have:=(d.agree.setG U v).put q Y (v:=v) (by rw[Vq (by rw[d.len];exact x)]);exact⟨this.defers,this.size,fun t ht=>this.old t (fun k ok Z=>ht k ok ((E k).2 Z)),fun k ok u t Z=>this.new k ok u t ((E k).1 Z)⟩
   rcases(E k).1 Z with Z|rfl
   .exact(E j).2 (.inl (d.closed k j Z G))
   exact(E j).2 (.inl (f j G))
  refine wpOpIn_step Y (fun K' ac=>?_);have D:=F i o Y _ vs w d.len d.world U f d.closed;have ab:=jd m;by_cases N:Vr o (Xs ops (aK ds a0 vs i).tmps)=true
  .rw[if_pos N]at D;rw[ab,N,if_pos rfl];refine vY (fun c=>hdef i o c Y) (fun c w h=>hB c a w d.agree.defers h) (n9 (iJ (fun cs b=>YQ hsel i o cs b Y) m) D) ?_;intro u X R;exact ac _ _ (A u X R)
  rw[if_neg N]at D;rw[ab,if_neg N];exact⟨fun _ _=>trivial,ac _ _ (A _ w D)⟩
def ae2(P:Wn)(ops:Array Xd)(S:(Nat->Prop)->UN->Prop)(i:Nat)(o:Xd)(a:Act)(v:UV):Prop:=
 ∀L w,S L w->¬L i->(∀j,bf ops i j=true->L j)->(∀j k,L j->bf ops j k=true->L k)->if Vr o (Xs ops a.tmps)=true then ak P o a w (Is v (S (fun k=>L k\/k=i)))else v=VM/\S (fun k=>L k\/k=i) w
def mR(P:Wn)(ops:Array Xd)(S:(Nat->Prop)->UN->Prop):Nat->List Xd->Act->(Act->Prop)->Prop
 |_,[],a,F=>F a
 |i,o::os,a,F=>∃v,ae2 P ops S i o a v/\mR P ops S (i+1) os (a.put o.dst v) F
section
variable {S:(Nat->Prop)->UN->Prop}
def bd{i}{o:Xd}{os:List Xd}{a v}{F:Act->Prop}(b:o.guard=U8)(h:∀L w,S L w->¬L i->(∀j,bf ops i j=true->L j)->(∀j k,L j->bf ops j k=true->L k)->ak P o a w (Is v (S (fun k=>L k\/k=i))))(z:mR P ops S (i+1) os (a.put o.dst v) F):mR P ops S i (o::os) a F:=⟨v,fun L w h1 c A d=>by unfold Vr;rw[b,if_pos rfl];exact h L w h1 c A d,z⟩
def iF{i a}{F:Act->Prop}(h:F a):mR P ops S i [] a F:=h
end
def eA(ds:List (Option Tmp))(a0:Act)(g:Nat->UV):Nat->Act
 |0=>a0
 |i+1=>(eA ds a0 g i).put (ds.getD i U8) (g i)
def fj{ds:List (Option Tmp)}{a0}{g h:Nat->UV}:∀{i:Nat},(∀j,j<i->g j=h j)->eA ds a0 g i=eA ds a0 h i
 |0,_=>rfl
 |i+1,e=>by rw[eA,eA,fj (i:=i) fun j Q=>e j Ph,e i Ph]
def mN{ds:List (Option Tmp)}{a0 vs}:∀{i:Nat},aK ds a0 vs i=eA ds a0 (fun j=>vs.getD j VM) i
 |0=>rfl
 |i+1=>by rw[aK,eA,mN]
def afV{ds:List (Option Tmp)}{a0}{g:Nat->UV}{n i}(h:i<=n):aK ds a0 ((We n).map g) i=eA ds a0 g i:=by
 rw[mN];exact fj fun j Q=>by rw[Uj,VU,Yp Ph];rfl
def Jf{ds:List (Option Tmp)}{a0}{g:Nat->UV}{vs:List UV}{i}{o:Xd}(u:ops.toList.map (·.dst)=ds)(f:lm ops=true)(p:vs.length=ops.size)(E:ops[i]?=Ts o)(y:∀j,bf ops i j=true->g j=vs.getD j VM):
  ∀t∈o.looksAt ops,(aK ds a0 vs i).tmps[t]?=(eA ds a0 g i).tmps[t]?:=by
 have F:=(UE.1 E).1;rw[<-afV (n:=ops.size) Ph];have z:=kF (a0:=a0) u f p i Ph;have hb:=kF (a0:=a0) (vs:=(We ops.size).map g) u f Pm i Ph;intro t H;by_cases D:∃(j:Nat)(s:Xd),ops[j]?=Ts s/\s.dst=Ts t
 .obtain⟨j,s,Q,m⟩:=D;have B:=(UE.1 Q).1;obtain⟨_,c⟩:=kH f E Q m;obtain⟨A,I⟩:=c H;have r:∀(k:Nat)ok,ops[k]?=Ts ok->ok.dst=Ts t->k=j:=fun k ok x b=>by
   rcases(kH f x Q m).1 with e|e
   .exact e
   exact absurd b e
  by_cases l:j<i
  .have G:vs[j]?=Ts (vs.getD j VM):=AB Ph;have C:((We ops.size).map g)[j]?=Ts (vs.getD j VM):=by rw[VU,Yp B,<-y j (A l)];rfl
   by_cases q:t<a0.tmps.size
   .rw[z.new j s _ t l Q m G q,hb.new j s _ t l Q m C q]
   have am:(aK ds a0 vs i).tmps[t]?=U8:=WB (by rw[z.size];exact Nat.le_of_not_lt q);rw[am,WB (by rw[hb.size];exact Nat.le_of_not_lt q)]
  rw[z.old t (fun k ok x d b=>l (r k ok d b▸x)),hb.old t (fun k ok x d b=>l (r k ok d b▸x))]
 rw[z.old t (fun k ok _ d b=>D ⟨k,ok,d,b⟩),hb.old t (fun k ok _ d b=>D ⟨k,ok,d,b⟩)]
def pA{α:Type}(f:Nat->α)(i:Nat)(x:α)(j:Nat):α:=if j=i then x else f j
def d7{α:Type}{f:Nat->α}{i}{x:α}:pA f i x i=x:=if_pos rfl
def fR{α:Type}{f:Nat->α}{i j}{x:α}(h:j≠i):pA f i x j=f j:=if_neg h
def wS{S:(Nat->Prop)->UN->Prop}{a0:Act}{F:Act->Prop}:∀(os:List Xd)(i:Nat)(g:Nat->UV),ops.toList.drop i=os->i<=ops.size->mR P ops S i os (eA (ops.toList.map (·.dst)) a0 g i) F->
  ∃h:Nat->UV,(∀j,j<i->h j=g j)/\(∀j o,i<=j->ops[j]?=Ts o->ae2 P ops S j o (eA (ops.toList.map (·.dst)) a0 h j) (h j))/\F (eA (ops.toList.map (·.dst)) a0 h ops.size)
 |[],i,g,y,hi,z=>by
  have r:ops.size<=i:=by have:=congrArg Xt y;simp at this;omega
  obtain rfl:i=ops.size:=Ph;exact⟨g,fun _ _=>rfl,fun j o Q d=>by have:=(UE.1 d).1;omega,z⟩
 |o::os,i,g,y,hi,⟨v,h1,c⟩=>by
  have d:ops[i]?=Ts o:=by
   have:=congrArg (fun l=>l[0]?) y;simpa using this
  have f:=(UE.1 d).1;have e:eA (ops.toList.map (·.dst)) a0 (pA g i v) i=eA (ops.toList.map (·.dst)) a0 g i:=fj fun j Q=>fR Ph;obtain⟨h,m,s,q⟩:=wS os (i+1) (pA g i v) (by rw[<-List.drop_drop,y];rfl) f (by rw[eA,e,d7,rC rfl d];exact c);have t:eA (ops.toList.map (·.dst)) a0 h i=eA (ops.toList.map (·.dst)) a0 g i:=fj fun j Q=>(m j Ph).trans (fR Ph);refine⟨h,fun j Q=>(m j Ph).trans (fR Ph),fun j o' Q b=>?_,q⟩;by_cases p:j=i
  .subst p;rw[d]at b;cases b;rw[t,m j Ph,d7];exact h1
  exact s j o' Ph b
def ek{id a}{w:UN}(K:P.follows .mixedOrders=true)(C:DR ops=true)(S:(Nat->Prop)->UN->Prop)(J:S (fun _=>False) w.drew)(z:mR P ops S 0 ops.toList a fun N=>∀L H,(∀i,i<ops.size->L i)->S L H->Q .normal N H):(YK id ops true).wpIn (Wd r) 0 P Q a w:=by
 obtain⟨A,-,m,x,-,-⟩:=lV C;obtain⟨g,-,F,t⟩:=wS (a0:=a) ops.toList 0 (fun _=>VM) rfl (VF _) z;refine rT (B:=fun _ _=>False) (T:=fun L vs w=>S L w/\∀j,j<ops.size->L j->g j=vs.getD j VM) rfl K C (fun _ _ _ _ h=>h.elim) (fun vs=>⟨J,fun _ _ h=>h.elim⟩) (fun i o D L vs w p s E d y=>?_) (fun L vs w p c s=>?_)
 .have I:=(UE.1 D).1;have u:=Jf (a0:=a) (g:=g) rfl A p D fun j l=>s.2 j (m i j l) (d j l);have h1:=F i o (VF _) D L w s.1 E d y;have f:∀v,g i=v->∀j,j<ops.size->L j\/j=i->g j=(vs.set i v).getD j VM:=fun v e j l M=>by
   by_cases q:j=i
   .subst q;rw[Uj,Vq Ph];exact e
   rw[Uj,Vl (fun e=>q e.symm),<-Uj];exact s.2 j l (M.resolve_right q)
  rw[jd u];split
  .next G=>
   rw[if_pos G]at h1;exact(mI (iJ (fun cs b=>YQ x i o cs b D) u) h1).toB.mono fun v H h=>⟨h.2,f v h.1.symm⟩
  next G=>
  rw[if_neg G]at h1;exact⟨h1.2,f _ h1.1⟩
 have:=t L w c s.1;rwa[fj fun j l=>s.2 j l (c j l),<-mN]at this
def Iw{F d:Act->Prop}(b:∀a,F a->d a):∀(os:List Xd)(i:Nat)(a:Act),eV P ops S os a F->mR P ops (fun _=>S) i os a d
 |[],_,_,h=>b _ h
 |_::os,_,_,⟨v,h1,c⟩=>⟨v,fun _ w h _ _ _=>by
   have:=h1 w h
   split at this<;>rename_i N
   .rw[if_pos N];exact this
   rw[if_neg N];exact⟨this,h⟩,Iw b os _ _ c⟩
def aZ{id a}{w:UN}(K:P.follows .mixedOrders=true)(c:DR ops=true)(S:UN->Prop)(L:S w.drew)(z:eV P ops S ops.toList a fun d=>∀b,S b->Q .normal d b):(YK id ops true).wp P Q a w:=
 (wpIn_wide (n:=0)).1 (ek (r:=U8) K c (fun _=>S) L (Iw (fun _ h _ b _ l=>h b l) _ _ _ z))
def jr:∀(os:List Xd)(a:Act)(w:UN),S w->eV P ops S os a (fun j=>∀b,S b->Q .normal j b)->wpList P ops Q os a w
 |[],_,w,L,z=>z w L
 |o::os,a,w,L,⟨v,h1,c⟩=>by
  refine wpList_step fun K H=>have d:=h1 w L;?_;split
  .rename_i g
   rw[if_pos g]at d;refine DM d ?_;rintro u b⟨rfl,f⟩;exact H _ _ (jr os _ b f c)
  rename_i g
  rw[if_neg g]at d;subst d;exact H _ _ (jr os _ w L c)
def aG{id a w}(S:UN->Prop)(L:S w)(z:eV P ops S ops.toList a fun c=>∀b,S b->Q .normal c b):(YK id ops false).wp P Q a w:=
 wp_region_list (jr _ _ _ L z)
end
end
def ee{base size f}(h:w.ownsRow base e size v n f)(l:aq w b):b.ownsRow base e size v n f:=by
 obtain⟨h1,c⟩:=h;refine⟨h1,?_⟩;rcases c with c|⟨g,cap,d,c,A,j,m⟩
 .exact .inl c
 exact .inr ⟨g,cap,d,c,A,(l.block g (UE.1 j).1).trans j,m⟩
def fC{α β:Type}{f:α->List β}(K:∀x,(f x).length=m):∀{l:List α}{i:Nat}{x:α}(j:Nat),l[i]?=Ts x->j<m->(l.flatMap f)[i*m+j]?=(f x)[j]?
 |[],i,x,j,h,_=>QX
 |y::l,0,x,j,h,Q=>by
  simp at h;subst h;rw[Vh,Yx,VY,List.getElem?_append_left (by rw[K];exact Q)]
 |y::l,i+1,x,j,h,Q=>by
  have b:l[i]?=Ts x:=QJ;rw[Vh,List.getElem?_append_right (by rw[K,ZC];omega),K,show(i+1)*m+j-m=i*m+j by rw[ZC];omega];exact fC K j b Q
def dN{α β:Type}{f:α->List β}(K:∀x,(f x).length=m)(l:List α):(l.flatMap f).length=l.length*m:=by
 induction l with
 |nil=>simp
 |cons x l b=>rw[Vh,List.length_append,b,K,List.length_cons,ZC];omega
def ir{base b}(h:w.ownsRow base e m v n b)(S:v.ownBlock=Ts g)(X:b[j]?=Ts u):w.cell? ⟨g,j,U8⟩=Ts u:=by
 have:=h.cells S j u X;rwa[show((⟨g,0,U8⟩:VW).add j)=⟨g,j,U8⟩from Px]at this
def dD{base c}(h:w.ownsRow base e m v n c):(v=zz/\n=0/\c=[])\/∃g cap,v=Tm (Ts ⟨g,0,U8⟩) n cap/\v.ownBlock=Ts g/\base<=g/\g<w.heap.size/\n<=cap/\cap<=VL:=by
 obtain⟨L,h1⟩:=h;rcases h1 with⟨b,hn⟩|⟨g,cap,d,b,S,f,J,K,_⟩
 .subst hn;exact .inl ⟨b,rfl,VA Ph⟩
 exact .inr ⟨g,cap,b,by rw[b];rfl,S,(UE.1 f).1,J,K⟩
def kZ{α:Type}{R:pD α}{cells:α->List UV}(K:∀x,(cells x).length=m){base}{l:List α}(q:∀b o x,x∈l->(∀(j:Nat)(u:UV),(cells x)[j]?=Ts u->w.cell? ⟨b,o+j,U8⟩=Ts u)->R w b o x)(hn:l.length=n)(h:w.ownsRow base e m v n (l.flatMap cells)):Ke m R w v l:=by
 rcases dD h with⟨rfl,rfl,d⟩|⟨g,cap,f,S,_,_,J,c⟩
 .have p:l=[]:=VA hn;subst p;exact Tw
 refine⟨Ts ⟨g,0,U8⟩,cap,by rw[f,hn],by rw[hn];exact J,c,fun i x d=>⟨g,0,rfl,?_⟩⟩;refine q _ _ x (Uv d) fun j u X=>?_;have Q:j<m:=by rw[<-K x];exact(UU.1 X).1
 rw[VY];exact ir h S (by rw[fC K j d Q];exact X)
def gR{am l m1 p d q m}(h1:w.ownsRow b1 am m1 d n1 q)(c:w.ownsRow b2 l p v2 n2 m)(o:am≠l):d.ownBlock=U8\/d.ownBlock≠v2.ownBlock:=by
 rcases h1.2 with⟨rfl,_⟩|⟨g1,c1,g,rfl,_,f,_⟩
 .exact .inl rfl
 right;rcases c.2 with⟨rfl,_⟩|⟨g2,c2,j,rfl,_,b,_⟩
 .simp[Vt]
 simp only[Vt,ne_eq,Vw];rintro rfl;rw[f]at b;simp at b;exact o b.2
def j8{base f}(h:w.ownsRow base e m v n f)(hb:∀g,v.ownBlock=Ts g->b.heap[g]?=w.heap[g]?):b.ownsRow base e m v n f:=by
 obtain⟨h1,c⟩:=h;refine⟨h1,?_⟩;rcases c with c|⟨g,cap,d,c,A,l,j⟩
 .exact .inl c
 exact .inr ⟨g,cap,d,c,A,(hb g (by rw[c];rfl)).trans l,j⟩
def eM{base c}(h:w.ownsRow base e m v n c)(P:Fr S w b)(z:∀g,v.ownBlock=Ts g->¬S g):b.ownsRow base e m v n c:=
 j8 h fun g d=>P.block g (h.lt g d).2 (z g d)
def cU{base}{b:Nat}{o}{j:Array MapEntry}{c}(h:w.ownsRow base e m v n o)(hb:w.heap[b]?=Ts (.map j c)):v.ownBlock≠Ts b:=by
 intro d;rcases h.2 with⟨rfl,_⟩|⟨g,cap,l,rfl,_,f,_⟩
 .simp[Vt]at d
 simp only[Vt,Vw]at d;subst d;rw[hb]at f;cases f
def Fr.grown{row}(S:w.grownBy c row):Fr (fun b=>row=Ts b) w c:=⟨S.os,S.tape,S.output,S.size,fun k o z=>S.block k o (fun e=>z e.symm)⟩
def Fr.onto{T:Nat->Prop}{B}(h:Fr S A B)(k:Fr T B C)(b:∀i,i<A.heap.size->T i->S i):Fr S A C:=
 ⟨k.os.trans h.os,k.tape.trans h.tape,k.output.trans h.output,VG h.size k.size,
  fun i hi z=>(k.block i (Wp hi h.size) (fun t=>z (b i hi t))).trans (h.block i hi z)⟩
def pI(w:UN)(v u:UV)(t:WR):∀(j:Nat)(x:UV),[v,u][j]?=Ts x->(w.alloc (Tq #[v,u] t)).cell? ((⟨w.heap.size,0,U8⟩:VW).add j)=Ts x:=by
 intro j x h;match j,h with
 |0,h=>simp at h;subst h;simp[ZL,go_sem]
 |1,h=>simp at h;subst h;simp[ZL,go_sem]
 |j+2,h=>simp at h
def vT(w:UN)(a b c d:UV)(t:WR):∀(j:Nat)(x:UV),[a,b,c,d][j]?=Ts x->(w.alloc (Tq #[a,b,c,d] t)).cell? ((⟨w.heap.size,0,U8⟩:VW).add j)=Ts x:=by
 intro j x h;match j,h with
 |0,h=>simp at h;subst h;simp[ZL,go_sem]
 |1,h=>simp at h;subst h;simp[ZL,go_sem]
 |2,h=>simp at h;subst h;simp[ZL,go_sem]
 |3,h=>simp at h;subst h;simp[ZL,go_sem]
 |j+4,h=>simp at h
section
def dL(ops:Array Xd):Nat->Nat->Nat->Bool
 |0,k,m=>bf ops k m
 |f+1,k,m=>bf ops k m||(We ops.size).any fun x=>bf ops k x&&dL ops f x m
def kL{ops}{L:Nat->Prop}(J:∀j k,L j->bf ops j k=true->L k){m}:∀(f k:Nat),dL ops f k m=true->L k->L m
 |0,k,h,o=>J k m o h
 |f+1,k,h,o=>by
  unfold dL at h;rcases WU _ _▸h with h|h
  .exact J k m o h
  obtain⟨x,-,b⟩:=List.any_eq_true.1 h;rw[V7]at b;exact kL J f x b.2 (J k x o b.1)
section
variable {P:Wn} {ops:Array Xd} {Q:Exit->Act->UN->Prop} {S S2:UN->Prop}
def ak.mono{o a w}{G d:UV->UN->Prop}(h:ak P o a w G)(c:∀v b,G v b->d v b):ak P o a w d:=by
 unfold ak at h⊢;split at h
 .exact c _ _ h
 .exact c _ _ h
 .refine Calls.mono h ?_;rintro e f⟨v,rfl,S⟩;exact⟨v,rfl,c _ _ S⟩
 exact h.elim
def Kk(m:Nat)(S S2:UN->Prop)(L:Nat->Prop)(w:UN):Prop:=(¬L m/\S w)\/(L m/\S2 w)
def qv{m f s}{F F1:Act->Prop}(d:∀k,k<m->dL ops f m k=true):∀(os:List Xd)(i:Nat)(a:Act),i+os.length=m->(∀o∈os,o.guard=U8)->eV P ops S os a F1->
  (∀a1,F1 a1->mR P ops (Kk m S S2) m s a1 F)->mR P ops (Kk m S S2) i (os++s) a F
 |[],i,a,hi,_,z,j=>by
  obtain rfl:i=m:=RM;exact j a z
 |o::os,i,a,hi,t,⟨v,h1,c⟩,j=>by
  have r:i<m:=XE;have x:Vr o (Xs ops a.tmps)=true:=by unfold Vr;rw[t o Pm]
  refine⟨v,fun L w l p _ J=>?_,qv d os (i+1) _ XE (fun o y=>t o (List.mem_cons_of_mem _ y)) c j⟩;rw[if_pos x];rcases l with⟨g,l⟩|⟨g,_⟩
  .have A:=h1 w l;rw[if_pos x]at A;refine A.mono ?_;rintro u b⟨rfl,q⟩;exact⟨rfl,.inl ⟨fun h=>h.elim g (fun e=>Ph),q⟩⟩
  exact absurd (kL J f m (d i r) g) p
def vA(b:(ops.all fun o=>o.guard.isNone)=true):∀o∈ops.toList,o.guard=U8:=fun o c=>by
 obtain⟨i,hi,rfl⟩:=Array.getElem_of_mem (Array.mem_toList_iff.1 c);have:=Array.all_eq_true.1 b i hi;simpa using this
def He(P:Wn)(ops:Array Xd)(Q:Exit->Act->UN->Prop)(S S2:UN->Prop)(m:Nat)(a:Act):Prop:=
 ∃o v,ops[m]?=Ts o/\o.guard=U8/\(∀b,S b->ak P o a b (Is v S2))/\∀b,S2 b->Q .normal (a.put o.dst v) b
def IX{m}{o:Xd}{a v}(d:Option Tmp)(h1:ops[m]?=Ts o)(c:o.guard=U8)(y:o.dst=d)(A:∀b,S b->ak P o a b (Is v S2))(f:∀b,S2 b->Q .normal (a.put d v) b):He P ops Q S S2 m a:=⟨o,v,h1,c,A,by rw[y];exact f⟩
def tD{id a}{w:UN}(m f)(K:P.follows .mixedOrders=true)(C:DR ops=true)(q:(ops.all fun o=>o.guard.isNone)=true)(x:ops.size=m+1)(d:((We m).all fun k=>dL ops f m k)=true)(S S2:UN->Prop)(E:S w.drew)(z:eV P ops S (ops.toList.take m) a (He P ops Q S S2 m)):(YK id ops true).wp P Q a w:=by
 have g:m<ops.size:=Ph;have y:ops.toList=ops.toList.take m++[ops[m]]:=by
  have h1:=List.take_append_drop m ops.toList;have c:ops.toList.drop m=[ops[m]]:=by
   rw[List.drop_eq_getElem_cons Zbs];rw[List.drop_eq_nil_of_le Pp];simp
  rw[c]at h1;exact h1.symm
 have F:=vA q;refine wpIn_wide (n:=0).1 (ek (r:=U8) K C (Kk m S S2) (.inl ⟨fun h=>h,E⟩) ?_);rw[y];refine qv (f:=f) (F1:=He P ops Q S S2 m) (fun k G=>WE.1 d k (by simpa using G)) _ 0 a Pp (fun o p=>F o (List.mem_of_mem_take p)) z ?_;rintro a1⟨o,v,p,s,A,D⟩;have B:ops[m]=o:=by rw[Vy g]at p;exact Vm p
 rw[B];refine bd (v:=v) s (fun L w l t _ _=>?_) (iF fun L b j l=>?_)
 .rcases l with⟨_,l⟩|⟨h,_⟩
  .exact Uu
  exact absurd h t
 rcases l with⟨h,_⟩|⟨_,h⟩
 .exact absurd (j m g) h
 exact D b h
end
end
def dS{S:UN->Prop}{a:Act}{f b b2 d}{c x:Operand}(j:o.guard=Ts (g,f))(p:o.op= .pick c (.const (U1 true)) x)(U:Xs ops a.tmps g=Ts b)(J:a.eval c=gv b f (U1 b2))(m:a.eval x=gv b f (gv b2 false (U1 d)))(z:eV P ops S os (a.put o.dst (gv b f (U1 (b2||d)))) F):eV P ops S (o::os) a F:=
 av j U (fun e w l=>by
  unfold ak execOp;simp only[p,J,m,aB e]
  cases b2<;>exact⟨rfl,l⟩) z
section
section
variable {P:Wn} {ops:Array Xd} {Q:Exit->Act->UN->Prop} {T:(Nat->Prop)->List UV->UN->Prop} {r:Option Nat}
def ahD(P:Wn)(ops:Array Xd)(ds:List (Option Tmp))(T:(Nat->Prop)->List UV->UN->Prop)(a0:Act)(i:Nat)(o:Xd):Prop:=
 ∀(L:Nat->Prop)(vs:List UV)(w:UN),vs.length=ops.size->T L vs w->¬L i->(∀j,bf ops i j=true->L j)->(∀j k,L j->bf ops j k=true->L k)->ak P o (aK ds a0 vs i) w (fun v b=>T (fun k=>L k\/k=i) (vs.set i v) b)
end
end
section
section
variable {P:Wn} {ops:Array Xd} {Q:Exit->Act->UN->Prop} {r:Option Nat}
def bg{o a w}{B:List XR->UN->Prop}{d:UV->UN->Prop}(h:∀c,(∀v b,d v b->c v b)->aN P o a w B c):aN P o a w B d:=h d fun _ _ h=>h
def ah3(P:Wn)(ops:Array Xd)(ds:List (Option Tmp))(B:List XR->UN->Prop)(T:(Nat->Prop)->List UV->UN->Prop)(a0:Act)(i:Nat)(o:Xd):Prop:=
 ∀(L:Nat->Prop)(vs:List UV)(w:UN),vs.length=ops.size->T L vs w->¬L i->(∀j,bf ops i j=true->L j)->(∀j k,L j->bf ops j k=true->L k)->aN P o (aK ds a0 vs i) w B (fun v b=>T (fun k=>L k\/k=i) (vs.set i v) b)
def pM{id}{a:Act}{w}(ds:List (Option Tmp))(l:ops.toList.map (·.dst)=ds)(K:P.follows .mixedOrders=true)(q:DR ops=true){B:List XR->UN->Prop}(u:∀c s w,s.defers=a.defers->B c w->Q (.panic c) s w)(j:(ops.all fun o=>o.guard.isNone)=true)(T:(Nat->Prop)->List UV->UN->Prop)(y:∀vs,T (fun _=>False) vs w.drew)(b:∀i o,ops[i]?=Ts o->ah3 P ops ds B T a i o)(g:∀L vs w,vs.length=ops.size->(∀i,i<ops.size->L i)->T L vs w->Q .normal (aK ds a vs ops.size) w):(YK id ops true).wpIn (Wd r) 0 P Q a w:=
 rT l K q u y (fun i o t L vs w p x m d f=>by
  rw[if_pos (by unfold Vr;rw[vA j o (Uv (by rw[YN];exact t))])]
  exact b i _ t L vs w p x m d f) g
def ajA(n:Nat)(b:List Nat)(K:Nat->UN->Prop)(R:Nat->Nat->UV->UN->Prop)(L:Nat->Prop)(vs:List UV)(w:UN):Prop:=
 ∃s,s<=b.length/\(∀j m,b[j]?=Ts m->(L m↔j<s))/\K s w/\∀k,k<n->L k->R s k (vs.getD k VM) w
def My(P:Wn)(ops:Array Xd)(ds:List (Option Tmp))(K:Nat->UN->Prop)(R:Nat->Nat->UV->UN->Prop)(a0:Act)(c hi i:Nat)(o:Xd):Prop:=
 ∀(s:Nat)(vs:List UV)(w:UN),c<=s->s<=hi->vs.length=ops.size->K s w->(∀j,bf ops i j=true->R s j (vs.getD j VM) w)->ak P o (aK ds a0 vs i) w (fun v b=>R s i v b/\aq w b)
def ad7(P:Wn)(ops:Array Xd)(ds:List (Option Tmp))(f:Nat)(B:List XR->UN->Prop)(K:Nat->UN->Prop)(R:Nat->Nat->UV->UN->Prop)(a0:Act)(j i:Nat)(o:Xd):Prop:=
 ∀(vs:List UV)(w:UN),vs.length=ops.size->K j w->(∀k,k<ops.size->dL ops f i k=true->R j k (vs.getD k VM) w)->aN P o (aK ds a0 vs i) w B (fun v b=>K (j+1) b/\R (j+1) i v b/\∀k,R j k (vs.getD k VM) w->R (j+1) k (vs.getD k VM) b)
def vS(P:Wn)(ops:Array Xd)(ds:List (Option Tmp))(f:Nat)(B:List XR->UN->Prop)(K:Nat->UN->Prop)(R:Nat->Nat->UV->UN->Prop)(a0:Act):Nat->List (Bool×Nat×Nat)->List Xd->Prop
 |_,[],[]=>True
 |i,(b,c,hi)::z,o::os=>(if b then ad7 P ops ds f B K R a0 c i o else My P ops ds K R a0 c hi i o)/\vS P ops ds f B K R a0 (i+1) z os
 |_,_,_=>False
def wK{ds:List (Option Tmp)}{f}{B:List XR->UN->Prop}{K:Nat->UN->Prop}{R:Nat->Nat->UV->UN->Prop}{a0}:∀(os:List Xd)(z:List (Bool×Nat×Nat))(i:Nat),vS P ops ds f B K R a0 i z os->∀(k:Nat)(o:Xd),os[k]?=Ts o->
  ∃b c hi,z[k]?=Ts (b,c,hi)/\(if b then ad7 P ops ds f B K R a0 c (i+k) o else My P ops ds K R a0 c hi (i+k) o)
 |[],_,i,h,k,o,d=>by cases d
 |o'::os,[],i,h,k,o,d=>by exact h.elim
 |o'::os,(b,c,hi)::z,i,h,0,o,d=>by cases d;exact⟨b,c,hi,rfl,h.1⟩
 |o'::os,x::z,i,h,k+1,o,d=>by
  obtain⟨b,c,hi⟩:=x;have:=wK os z (i+1) h.2 k o d;rwa[show i+1+k=i+(k+1)from Ph]at this
def eD{L:Nat->Prop}{i}(c:∀j,bf ops i j=true->L j)(d:∀j k,L j->bf ops j k=true->L k)(f k)(h:dL ops f i k=true):L k:=by
 have l:∀(f x:Nat),dL ops f x k=true->(L x\/x=i)->L k:=fun f=>by
  induction f with
  |zero=>
   intro x m b;rcases b with b|rfl
   .exact d x k b m
   exact c k m
  |succ f g=>
   intro x m b;unfold dL at m;rcases WU _ _▸m with m|m
   .rcases b with b|rfl
    .exact d x k b m
    exact c k m
   obtain⟨y,-,U⟩:=List.any_eq_true.1 m;rw[V7]at U;refine g y U.2 ?_;rcases b with b|rfl
   .exact .inl (d x y b U.1)
   exact .inl (c y U.1)
 exact l f i h (.inr rfl)
def Gg(ops:Array Xd)(f:Nat)(c:List Nat)(z:List (Bool×Nat×Nat)):Bool:=
 (We ops.size).all fun i=>match z[i]? with
  |none=>false
  |some (b,d,hi)=>((We d).all fun j=>match c[j]? with|none=>false|some m=>dL ops f i m)&&
   (if b then c[d]? ==Ts i else(c.all fun m=>m !=i)&&(match c[hi]? with|none=>true|some m=>dL ops f m i)&&decide (hi<=c.length))
def xX{id}{a:Act}{w}(f x z)(ds:List (Option Tmp))(an:ops.toList.map (·.dst)=ds)(hm:P.follows .mixedOrders=true)(ac:DR ops=true){B:List XR->UN->Prop}(hB:∀c a' w,a'.defers=a.defers->B c w->Q (.panic c) a' w)(al:(ops.all fun o=>o.guard.isNone)=true)(I:Gg ops f x z=true)(hnd:x.Nodup)(ad:∀m∈x,m<ops.size)(K:Nat->UN->Prop)(H:∀s w b,K s w->aq w b->K s b)(R:Nat->Nat->UV->UN->Prop)(hR:∀s k v w b,R s k v w->aq w b->R s k v b)(hK0:K 0 w.drew)(N:vS P ops ds f B K R a 0 z ops.toList)(Y:∀(vs:List UV)(b:UN),vs.length=ops.size->K x.length b->(∀k,k<ops.size->R x.length k (vs.getD k VM) b)->Q .normal (aK ds a vs ops.size) b):(YK id ops true).wpIn (Wd r) 0 P Q a w:=by
 refine pM ds an hm ac hB al (ajA ops.size x K R) (fun vs=>⟨0,VF _,fun j m A=>⟨fun h=>h.elim,fun h=>Ph⟩,hK0,fun k _ h=>h.elim⟩) (fun i o ho=>?_) (fun L vs b p O hT=>?_)
 .intro L vs b p hT Z E D;have hi:=(UE.1 ho).1;obtain⟨s,X,l,F,t⟩:=hT;obtain⟨ab,M,C,hhs,g⟩:=wK ops.toList z 0 N i o (by rw[YN];exact ho);rw[VY]at g;have d:=WE.1 I i RM;rw[hhs]at d;simp only[V7]at d;have hlo:M<=s:=by
   by_cases J:M<=s
   .exact J
   exfalso;have h1:=WE.1 d.1 s Pp;cases W:x[s]? with
   |none=>rw[W]at h1;cases h1
   |some m=>
    rw[W]at h1;have:=(l s m W).1 (eD E D f m h1);omega
  have V:∀j,bf ops i j=true->R s j (vs.getD j VM) b:=fun j A=>t j ((lV ac).2.2.1 _ _ A) (E j A);cases ab with
  |true=>
   simp only[if_true]at g d;have G:x[M]?=Ts i:=by simpa using d.2
   have ao:M=s:=by
    have:¬M<s:=fun h=>Z ((l M i G).2 h);omega
   subst ao;have y:=(UU.1 G).1;refine(g vs b p F (fun k T u=>t k T (eD E D f k u))).mono fun v am h=>⟨M+1,Ph,fun j m A=>⟨fun S=>?_,fun S=>?_⟩,h.1,fun k T U=>?_⟩
   .rcases S with S|S
    .have:=(l j m A).1 S;omega
    subst S;have:j=M:=(List.getElem?_inj (UU.1 A).1 hnd).1 (A.trans G.symm);omega
   .by_cases ah:j=M
    .subst ah;exact .inr (Vm (A.symm.trans G))
    exact .inl ((l j m A).2 Ph)
   by_cases q:k=i
   .subst q;rw[Uj,Vq Ph];exact h.2.1
   rw[Uj,Vl (fun e=>q e.symm),<-Uj];exact h.2.2 k (t k T (U.resolve_right q))
  |false=>
   simp only[Bool.false_eq_true,if_false,V7,decide_eq_true_eq]at g d;have hhi:s<=C:=by
    by_cases J:s<=C
    .exact J
    exfalso;have y:C<x.length:=Ph;have h1:=d.2.1.2;rw[V8 y]at h1;have hLm:L x[C]:=(l C _ (V8 y)).2 Ph;exact Z (kL D f _ h1 hLm)
   refine(g s vs b hlo hhi p F V).toB.mono fun v am h=>⟨s,X,fun j m A=>?_,H _ _ _ F h.2,fun k T U=>?_⟩
   .have zs:m≠i:=by
     have:=WE.1 d.2.1.1 m (Uv A);simpa using this
    rw[<-l j m A];exact⟨fun S=>S.resolve_right zs,.inl⟩
   by_cases q:k=i
   .exact Zdi
   rw[Uj,Vl (fun e=>q e.symm),<-Uj];exact hR _ _ _ _ _ (t k T (U.resolve_right q)) h.2
 obtain⟨s,X,l,F,t⟩:=hT;have:s=x.length:=by
  by_cases J:s=x.length
  .exact J
  exfalso;have y:s<x.length:=Ph;have:=(l s _ (V8 y)).1 (O _ (ad _ (List.getElem_mem y)));omega
 subst this;exact Y vs b p F (fun k T=>t k T (O k T))
def aiJ(ops:Array Xd)(f:Nat)(b:List Nat)(z:List (Bool×Nat×Nat)):Bool:=DR ops&&(ops.all fun o=>o.guard.isNone)&&Gg ops f b z&&decide (ops.size=f)&&decide b.Nodup&&b.all fun m=>decide (m<ops.size)
def Jt{f b z}(h:aiJ ops f b z=true):DR ops=true/\(ops.all fun o=>o.guard.isNone)=true/\Gg ops f b z=true/\ops.size=f/\b.Nodup/\∀m∈b,m<ops.size:=by
 simp only[aiJ,V7,decide_eq_true_eq]at h;obtain⟨⟨⟨⟨⟨h1,c⟩,A⟩,j⟩,d⟩,g⟩:=h;exact⟨h1,c,A,j,d,fun m K=>of_decide_eq_true (WE.1 g m K)⟩
def cT:Bool×Nat×Nat:=(false,0,0)
def oc{id}{a:Act}{w}(f u z)(ds:List (Option Tmp))(x:ops.toList.map (·.dst)=ds)(K:P.follows .mixedOrders=true)(t:aiJ ops f u z=true){B:List XR->UN->Prop}(F:∀c C w,C.defers=a.defers->B c w->Q (.panic c) C w)(j:List (UN->Prop))(H:∀p∈j,∀w b,p w->aq w b->p b)(q:List (List (UV->UN->Prop)))(E:∀l∈q,∀p∈l,∀v w b,p v w->aq w b->p v b)(A:(j.getD 0 fun _=>True) w.drew)(d:vS P ops ds f B (fun s=>j.getD s fun _=>True) (fun s k v w=>((q.getD s []).getD k fun _ _=>True) v w) a 0 z ops.toList)(m:∀(vs:List UV)(b:UN),vs.length=f->(j.getD u.length fun _=>True) b->(∀k,k<f->((q.getD u.length []).getD k fun _ _=>True) (vs.getD k VM) b)->Q .normal (aK ds a vs f) b):(YK id ops true).wpIn (Wd r) 0 P Q a w:=
 have⟨hok,hgd,hsound,hsz,hnd,hmlt⟩:=Jt t
 xX f u z ds x K hok F hgd hsound hnd hmlt (fun s=>j.getD s fun _=>True) (fun s w b h g=>by
  rw[Uj]at h⊢;cases o:j[s]? with
  |none=>trivial
  |some p=>rw[o]at h;exact H p (Uv o) w b h g) (fun s k v w=>((q.getD s []).getD k fun _ _=>True) v w) (fun s k v w b h g=>by
  rw[Uj,Uj]at h⊢;cases z:q[s]? with
  |none=>rw[z]at h;simp at h⊢
  |some l=>
   rw[z]at h;simp only[Yu]at h⊢;cases o:l[k]? with
   |none=>trivial
   |some p=>rw[o]at h;exact E l (Uv z) p (Uv o) v w b h g) A d (fun vs b D o h=>by rw[hsz]at D⊢;exact m vs b D o fun k y=>h k (by rw[hsz];exact y))
def bu{id a w}(f o z)(ds:List (Option Tmp))(q:ops.toList.map (·.dst)=ds)(K:P.follows .mixedOrders=true)(d:aiJ ops f o z=true)(g:List (UN->Prop))(H:∀p∈g,∀w b,p w->aq w b->p b)(m:List (List (UV->UN->Prop)))(u:∀l∈m,∀p∈l,∀v w b,p v w->aq w b->p v b)(t:(g.getD 0 fun _=>True) w.drew)(c:vS P ops ds f (fun _ _=>False) (fun s=>g.getD s fun _=>True) (fun s k v w=>((m.getD s []).getD k fun _ _=>True) v w) a 0 z ops.toList)(j:∀(vs:List UV)(b:UN),vs.length=f->(g.getD o.length fun _=>True) b->(∀k,k<f->((m.getD o.length []).getD k fun _ _=>True) (vs.getD k VM) b)->Q .normal (aK ds a vs f) b):(YK id ops true).wpIn (Wd r) 0 P Q a w:=
 oc f o z ds q K d (fun _ _ _ _ h=>h.elim) g H m u t c j
end
def dq{q p:Nat->Prop}(y:∀j,q j->p j)(j)(h:q j){a x:UV}(e:p j=(a=x)):a=x:=e▸y j h
def ev(x v:UV)(_:UN):Prop:=v=x
def tv(_:UV)(_:UN):Prop:=True
def EX(l:List (UV->UN->Prop)):Prop:=∀p∈l,∀v w b,p v w->aq w b->p v b
def Ek{l:List (UV->UN->Prop)}{p:UV->UN->Prop}(x:∀v w b,p v w->aq w b->p v b)(h:EX l):EX (p::l):=List.forall_mem_cons.2 ⟨x,h⟩
def Gl:EX []:=fun _ h=>nomatch h
def EC{l:List (UV->UN->Prop)}{x}(h:EX l):EX (ev x::l):=Ek (fun _ _ _ h _=>h) h
def Gx{l:List (UV->UN->Prop)}(h:EX l):EX (tv::l):=Ek (fun _ _ _ h _=>h) h
def EX.set{l:List (UV->UN->Prop)}{p:UV->UN->Prop}{k}(h:EX l)(x:∀v w b,p v w->aq w b->p v b):EX (l.set k p):=fun q N=>(List.mem_or_eq_of_mem_set N).elim (h q) fun e=>e▸x
def EX.stv{l:List (UV->UN->Prop)}{k}(h:EX l):EX (l.set k tv):=h.set fun _ _ _ h _=>h
def TR(A B:List (UV->UN->Prop)):Prop:=∀(v:Nat->UV)(w1 w2:UN)(i:Nat),(A.getD i fun _ _=>True) (v i) w1->(B.getD i fun _ _=>True) (v i) w2
def TR.go{A B:List (UV->UN->Prop)}(h:TR A B){vs:List UV}{w1 w2:UN}(i):(A.getD i fun _ _=>True) (vs.getD i VM) w1->(B.getD i fun _ _=>True) (vs.getD i VM) w2:=h (fun i=>vs.getD i VM) w1 w2 i
def Bt{p:Prop}(h:p:=by intro v w1 w2 i_ h;(iterate 20 rcases i_ with _|i_;focus first|exact h|exact(h:_=_)|trivial);trivial):p:=h
def yk{W}(w b)(h:aq W w)(g:aq w b):aq W b:=aa h g
def OY{α:Type _}{p:α->Prop}{a:α}(h:p a):∀x∈[a],p x:=fun x m=>List.mem_singleton.1 m▸h
def ss{α:Type _}{p:α->Prop}{a b:α}(h:p a)(k:p b):∀x∈[a,b],p x:=List.forall_mem_cons.2 ⟨h,OY k⟩
def En{α:Type _}{p:α->Prop}{a b c:α}(h:p a)(k:p b)(l:p c):∀x∈[a,b,c],p x:=List.forall_mem_cons.2 ⟨h,ss k l⟩
def BY{α:Type _}{p:α->Prop}{a b c d:α}(h:p a)(k:p b)(l:p c)(m:p d):∀x∈[a,b,c,d],p x:=List.forall_mem_cons.2 ⟨h,En k l m⟩
end
section
section
variable {P:Wn} {ops:Array Xd} {Q:Exit->Act->UN->Prop} {T:(Nat->Prop)->List UV->UN->Prop} {r:Option Nat}
def yh{id a}{w:UN}(ds:List (Option Tmp))(l:ops.toList.map (·.dst)=ds)(K:P.follows .mixedOrders=true)(m:DR ops=true)(j:(ops.all fun o=>o.guard.isNone)=true)(T:(Nat->Prop)->List UV->UN->Prop)(p:∀vs,T (fun _=>False) vs w.drew)(f:∀i o,ops[i]?=Ts o->ahD P ops ds T a i o)(g:∀L vs w,vs.length=ops.size->(∀i,i<ops.size->L i)->T L vs w->Q .normal (aK ds a vs ops.size) w):(YK id ops true).wpIn (Wd r) 0 P Q a w:=
 pM ds l K m (B:=fun _ _=>False) (fun _ _ _ _ h=>h.elim) j T p (fun i o q L vs w a b c d e=>(f i o q L vs w a b c d e).toB) g
def ai3(m:Nat)(f:UN)(R:Nat->UV->UN->Prop)(Fin:List UV->UN->Prop)(L:Nat->Prop)(vs:List UV)(w:UN):Prop:=
 (¬L m/\aq f w/\∀k,k<m->L k->R k (vs.getD k VM) w)\/(L m/\Fin vs w)
def Ag(P:Wn)(ops:Array Xd)(ds:List (Option Tmp))(n:Nat)(f:UN)(R:Nat->UV->UN->Prop)(a0:Act):Nat->List Xd->Prop
 |_,[]=>True
 |i,o::os=>(∀(vs:List UV)(w:UN),vs.length=n->aq f w->(∀j,bf ops i j=true->R j (vs.getD j VM) w)->ak P o (aK ds a0 vs i) w (fun v b=>R i v b/\aq w b))/\Ag P ops ds n f R a0 (i+1) os
def vU{ds:List (Option Tmp)}{n f}{R:Nat->UV->UN->Prop}{a0}:∀(os:List Xd)(i:Nat),Ag P ops ds n f R a0 i os->∀(k:Nat)(o:Xd),os[k]?=Ts o->
  ∀(vs:List UV)(w:UN),vs.length=n->aq f w->(∀j,bf ops (i+k) j=true->R j (vs.getD j VM) w)->ak P o (aK ds a0 vs (i+k)) w (fun v b=>R (i+k) v b/\aq w b)
 |[],i,_,k,o,c=>by cases c
 |o'::os,i,h,0,o,c=>by cases c;exact h.1
 |o'::os,i,h,k+1,o,c=>by
  have:=vU os (i+1) h.2 k o c;rwa[show i+1+k=i+(k+1)from Ph]at this
def xU{id a w}(m f)(ds:List (Option Tmp))(V:ops.toList.map (·.dst)=ds)(K:P.follows .mixedOrders=true)(G:DR ops=true)(N:(ops.all fun o=>o.guard.isNone)=true)(c:ops.size=m+1){T}(X:ops[m]?=Ts T)(d:((We m).all fun k=>dL ops f m k)=true)(R:Nat->UV->UN->Prop)(hR:∀k v w b,R k v w->aq w b->R k v b)(Fin:List UV->UN->Prop)(t:Ag P ops ds (m+1) w.drew R a 0 (ops.toList.take m))(F:∀(vs:List UV)(b:UN),vs.length=m+1->aq w.drew b->(∀j,j<m->R j (vs.getD j VM) b)->ak P T (aK ds a vs m) b (fun v C=>Fin (vs.set m v) C))(D:∀(vs:List UV)(b:UN),vs.length=m+1->Fin vs b->Q .normal (aK ds a vs (m+1)) b):(YK id ops true).wpIn (Wd r) 0 P Q a w:=by
 refine yh ds V K G N (ai3 m w.drew R Fin) (fun vs=> .inl ⟨fun h=>h,P0,fun k _ h=>h.elim⟩) (fun i o Y=>?_) (fun L vs b p l I=>?_)
 .intro L vs b p I E q z;have hi:=(UE.1 Y).1;by_cases H:i=m
  .subst H;rcases I with⟨_,g,s⟩|⟨h,_⟩
   .have l:∀k,k<i->L k:=fun k Z=>eD q z f k (WE.1 d k (by simpa using Z));have S:=F vs b (p.trans c) g (fun j A=>s j A (l j A));have M:T=o:=Vm (X.symm.trans Y);rw[M]at S;exact S.mono fun v C h=> .inr ⟨.inr rfl,h⟩
   exact absurd h E
  have y:i<m:=by omega
  rcases I with⟨x,g,s⟩|⟨x,_⟩
  .have W:(ops.toList.take m)[i]?=Ts o:=by rw[XM,if_pos y,YN];exact Y
   have S:=vU (ops.toList.take m) 0 t i o W vs b (p.trans c) g (fun j A=>by
    rw[VY]at A;have O:j<m:=by
     have J:=q j A;have:j≠m:=fun e=>x (e▸J);have:=(lV G).2.2.1 _ _ A;omega
    exact s j O (q j A))
   rw[VY]at S;refine S.mono fun v C h=> .inl ⟨fun e=>e.elim x (fun e=>H e.symm),aa g h.2,fun k Z U=>?_⟩;by_cases B:k=i
   .subst B;rw[Uj,Vq Ph];exact h.1
   rw[Uj,Vl (fun e=>B e.symm),<-Uj];exact hR _ _ _ _ (s k Z (U.resolve_right B)) h.2
  exfalso;have u:=WE.1 d i (by simpa using y);exact E (kL z f m u x)
 rcases I with⟨h,_⟩|⟨_,h⟩
 .exact absurd (l m Ph) h
 rw[c];exact D vs b (p.trans c) h
def gp{id a w}(m f)(ds:List (Option Tmp))(y:ops.toList.map (·.dst)=ds)(K:P.follows .mixedOrders=true)(A:DR ops=true)(u:(ops.all fun o=>o.guard.isNone)=true)(l:ops.size=m+1){C}(z:ops[m]?=Ts C)(d:((We m).all fun k=>dL ops f m k)=true)(q:List (UV->UN->Prop))(D:∀p∈q,∀v w b,p v w->aq w b->p v b)(Fin:List UV->UN->Prop)(c:Ag P ops ds (m+1) w.drew (fun k v w=>(q.getD k fun _ _=>True) v w) a 0 (ops.toList.take m))(s:∀(vs:List UV)(b:UN),vs.length=m+1->aq w.drew b->(∀j,j<m->(q.getD j fun _ _=>True) (vs.getD j VM) b)->ak P C (aK ds a vs m) b (fun v x=>Fin (vs.set m v) x))(t:∀(vs:List UV)(b:UN),vs.length=m+1->Fin vs b->Q .normal (aK ds a vs (m+1)) b):(YK id ops true).wpIn (Wd r) 0 P Q a w:=
 xU m f ds y K A u l z d (fun k v w=>(q.getD k fun _ _=>True) v w) (fun k v w b h g=>by
  rw[Uj]at h⊢;cases B:q[k]? with
  |none=>trivial
  |some p=>rw[B]at h;exact D p (Uv B) v w b h g) Fin c s t
end
end
section
attribute [local go_sem] Oper.semAt_some
def rt(r)(w:UN):
  VB UB 303 #[Ti .i32 r] w fun e b=>e=UO (U1 (lw r))/\b=w:=by
 go_enter func303,ntmps303;go_wp2
 all_goals(go_ret;refine⟨bV ?_,rfl⟩;rw[Bool.eq_iff_iff];simp[lw];try omega)
def sw(r)(w:UN):
  VB UB 304 #[Ti .i32 r] w fun e b=>e=UO (U1 (nR r))/\b=w:=by
 by_cases h:r=45
 all_goals
  have c:(r==45)=decide (r=45):=rfl
  simp only[h,decide_true,decide_false]at c
  go_enter func304,ntmps304
  go_wp2_with (go_at_call 303;refine(rt _ _).mono ?_;rintro e b⟨rfl,rfl⟩)
  go_ret
  exact⟨bV (by simp[nR,h]),rfl⟩
def BA(b)(w:UN):
  VB UB 230 #[U1 b] w fun e c=>e=UO (Ti Tl (rP 110 b))/\w=c:=by
 cases b;all_goals
  go_enter func230,ntmps230
  go_wp2
  go_ret
  exact⟨rfl,rfl⟩
def Dy{r}(h:128<=r):ae6 n k r=false:=by
 have h1:lw r=false:=by unfold lw;rw[Bool.eq_false_iff];simp;omega
 have c:(r==45)=false:=Si;have A:(r==95)=false:=Si;unfold ae6 nR;rw[h1,c,A];simp
def aaR(s:ByteArray)(k:Nat):Prop:=∀j,j<k->ae6 s.size j ((s.data.toList.getD j 0).toNat:Int)=true
def ot(s:ByteArray)(k:Nat)(b:Bool):Prop:=ae6 s.size k (Utf8.decode s k).1=b
def Cg(h:k<s.size):s.data.toList.getD k 0=s[k]:=by
 rw[Uj,Lib.data_getElem? s k h];rfl
def Kd(o:k<s.size)(h:aaR s k)(b:ot s k true):(Utf8.decode s k).2=1/\aaR s (k+1):=by
 by_cases hb:(s[k]'o).toNat<128
 .have e:=decode_ascii s k o hb;refine⟨by rw[e],fun j Q=>?_⟩;by_cases c:j=k
  .subst c;unfold ot at b;rw[e]at b;rw[Cg o];exact b
  exact h j Ph
 have:=(decode_high s k o Ph).1;unfold ot at b;rw[Dy Ph]at b;cases b
def MR(o:k<s.size)(b:ot s k false):df s.data.toList=false:=by
 have hn:ae6 s.data.toList.length k ((s.data.toList.getD k 0).toNat:Int)=false:=by
  rw[Cg o,<-YW];by_cases hb:(s[k]'o).toNat<128
  .unfold ot at b;rw[decode_ascii s k o hb]at b;exact b
  exact Dy Ph
 unfold df;rw[Bool.and_eq_false_iff];right;rw[List.all_eq_false];exact⟨k,by rw[List.mem_range,<-YW];exact o,by rw[hn];simp⟩
def N5(h1:1<=s.size)(c:s.size<=16)(h:aaR s s.size):df s.data.toList=true:=by
 unfold df;rw[<-YW];simp only[V7,decide_eq_true_eq,WE,List.mem_range];exact⟨⟨h1,c⟩,h⟩
def tA(h:s.size=0\/16<s.size):df s.data.toList=false:=by
 unfold df;rw[<-YW];rw[Bool.and_eq_false_iff];left;simp;omega
def ED:s.toList.isEmpty=decide (s.size=0):=by
 rw[Lib.toList_data,YW];cases s.data.toList<;>simp
def N8(s:ByteArray)(w:UN)(e:Xo)(b:UN):Prop:=e=UO (U1 (df s.data.toList))/\aq w b
def Jw(s:ByteArray)(w)(z:s.size<=9223372036854775807):
  VB UB 279 #[UH s] w (N8 s w):=by
 have p:=ED (s:=s);by_cases L:s.size=0
 .have I:s.toList.isEmpty=true:=by rw[p];simp[L]
  have H:=Tn L;go_enter func279,ntmps279;go_wp2
  go_ret;exact⟨bV (tA (.inl H.out)).symm,P0⟩
 by_cases h1:16<s.size
 .have I:s.toList.isEmpty=false:=by rw[p];simp[L]
  have M:16<(s.size:Int):=Ph;go_enter func279,ntmps279;go_wp2
  go_ret;exact⟨bV (tA (.inr h1)).symm,P0⟩
 have I:s.toList.isEmpty=false:=by rw[p];simp[L]
 have M:(s.size:Int)<=16:=Ph;have N:1<=s.size:=Ph;go_enter func279,ntmps279;go_wp2
 go_loopw [3,4] (fun i c wr=>∃k:Nat,k<=s.size/\wr=w.iter s k/\aaR s k) (fun _ _ wr=>s.size-wr.iterPos w.heap.size)
 case atStart=>exact⟨0,Ph,rfl,fun j Q=>absurd Q (YG _)⟩
 obtain⟨k,o,rfl,S⟩:=hrel;have G:=Tn S;by_cases R:k<s.size
 .have E:∀B,(Instr.next (Value.pointer (Ts ⟨w.heap.size,0,U8⟩)) true B).run UB (w.iter s k)=_:=fun B=>run_next_any w s k B R;have l:ot s k true->(Utf8.decode s k).2=1/\aaR s (k+1):=Kd R G;have f:ot s k false->df s.data.toList=false:=MR R;obtain⟨r,u⟩:∃r:Nat,(Utf8.decode s k).1=r:=⟨_,rfl⟩;obtain⟨d,y⟩:∃d:Nat,(Utf8.decode s k).2=d:=⟨_,rfl⟩;unfold ot at l f;simp only[u,y]at l f E;clear u y;unfold ae6 at l f;by_cases g:k+1=s.size
  .have K:((k:Int)==(s.size:Int)-1)=true:=by rw[beq_iff_eq];omega
   simp only[g,if_true]at l f;refine P3 l f g fun q m F=>?_;clear l f;go_wp2_with (first|(go_at_call 303;refine(rt _ _).mono ?_;rintro e b⟨rfl,rfl⟩)|(go_at_call 304;refine(sw _ _).mono ?_;rintro e b⟨rfl,rfl⟩))
   .have t:lw (r:Int)=true:=by assumption
    obtain⟨y,S⟩:=q.out t;go_roundw
    case rel=>exact⟨k+1,Ph,by rw[y],by rw[F.out];exact S⟩
    case measure=>simp;omega
   have t:lw (r:Int)=false:=by assumption
   go_ret;exact⟨bV (m t).symm,P0.alloc (UY _) _⟩
  have K:((k:Int)==(s.size:Int)-1)=false:=by rw[beq_eq_false_iff_ne];omega
  simp only[g,if_false]at l f;by_cases J:k=0
  .subst J;have t3:((0:Int)==(s.size:Int)-1)=false:=Si;simp only[if_true]at l f;refine P3 l f g fun q m F=>?_;clear l f;go_wp2_with (first|(go_at_call 303;refine(rt _ _).mono ?_;rintro e b⟨rfl,rfl⟩)|(go_at_call 304;refine(sw _ _).mono ?_;rintro e b⟨rfl,rfl⟩))
   .have t:lw (r:Int)=true:=by assumption
    obtain⟨y,S⟩:=q.out (by rw[t];rfl);go_roundw
    case rel=>exact⟨1,Ph,by rw[y],S⟩
    case measure=>simp;omega
   .have t:((r:Int)==95)=true:=by assumption
    obtain⟨y,S⟩:=q.out (by rw[t];simp);go_roundw
    case rel=>exact⟨1,Ph,by rw[y],S⟩
    case measure=>simp;omega
   have t:¬lw (r:Int)=true:=by assumption
   have D:((r:Int)==95)=false:=Zbo;go_ret;exact⟨bV (m (by rw[D];simpa using t)).symm,P0.alloc (UY _) _⟩
  have O:((k:Int)==0)=false:=by rw[beq_eq_false_iff_ne];omega
  simp only[J,if_false]at l f;refine P3 l f g fun q m F=>?_;clear l f;go_wp2_with (first|(go_at_call 303;refine(rt _ _).mono ?_;rintro e b⟨rfl,rfl⟩)|(go_at_call 304;refine(sw _ _).mono ?_;rintro e b⟨rfl,rfl⟩))
  .have t:(!nR (r:Int))=true:=by assumption
   go_ret;exact⟨bV (m Zdb).symm,P0.alloc (UY _) _⟩
  have t:(!nR (r:Int))=false:=by assumption
  obtain⟨y,S⟩:=q.out Zdb;go_roundw
  case rel=>exact⟨k+1,Ph,by rw[y],S⟩
  case measure=>simp;omega
 have C:k=s.size:=by omega
 have x:df s.data.toList=true:=N5 N Ph (by rw[<-C];exact G.out);have A:=Tn x;clear x C;have zs:=fun B=>run_next_end (P:=UB) w s k B R;go_wp2
 go_ret;exact⟨bV A.symm,P0.alloc (UY _) _⟩
end
section
open Go.Maps
open Go.ChangeMaps (setBlock heap_setBlock_same heap_setBlock_other)
structure vp{K:Type}(P:Wn)(kt:WR)(enc:K->UV)(Ok:K->Prop):Prop where
 keyed:Keyed P kt
 key:∀k,Ok k->∃l,keyOf P kt (enc k)=Ts l
 inj:∀a b,enc a=enc b->a=b
section
variable {K:Type} [DecidableEq K]
def fi:List (K×UV)->K->Option UV
 |[],_=>U8
 |p::m,k=>if p.1=k then Ts p.2 else fi m k
def jn:List (K×UV)->K->UV->List (K×UV)
 |[],k,v=>[(k,v)]
 |p::m,k,v=>if p.1=k then(k,v)::m else p::jn m k v
def y9{m:List (K×UV)}{k:K}:fi m k=U8↔∀p∈m,p.1≠k:=by
 induction m with
 |nil=>simp[fi]
 |cons p m b=>
  unfold fi;split
  .rename_i h;simp[h]
  rename_i h;rw[b];simp[h]
def adR{m:List (K×UV)}(b:m.Pairwise fun p q=>p.1≠q.1):∀{j:Nat}{p:K×UV},m[j]?=Ts p->fi m p.1=Ts p.2:=by
 induction m with
 |nil=>intro j p h;simp at h
 |cons q m f=>
  obtain⟨h1,c⟩:=Y2.1 b;intro j p h;cases j with
  |zero=>simp at h;subst h;simp[fi]
  |succ j=>
   have d:m[j]?=Ts p:=QJ;have zs:=h1 p (Uv d);simp[fi,zs,f c d]
def jW(m:List (K×UV))(k:K)(v)(b:K):fi (jn m k v) b=if k=b then Ts v else fi m b:=by
 induction m with
 |nil=>simp[jn,fi]
 |cons p m d=>
  unfold jn;by_cases h:p.1=k
  .rw[if_pos h];subst h;by_cases c:p.1=b<;>simp[fi,c]
  rw[if_neg h];by_cases c:p.1=b
  .have:¬k=b:=fun e=>h (c.trans e.symm);simp[fi,c,this]
  simp[fi,c,d]
def Ef{m:List (K×UV)}{k:K}(h:fi m k=U8)(v):jn m k v=m++[(k,v)]:=by
 induction m with
 |nil=>rfl
 |cons p m b=>
  unfold fi at h;split at h
  .cases h
  rename_i x
  unfold jn;rw[if_neg x,b h];rfl
def acU{m:List (K×UV)}(b:m.Pairwise fun p q=>p.1≠q.1):∀{j:Nat}{p:K×UV}(v:UV),m[j]?=Ts p->jn m p.1 v=m.set j (p.1,v):=by
 induction m with
 |nil=>intro j p v h;simp at h
 |cons q m f=>
  obtain⟨h1,c⟩:=Y2.1 b;intro j p v h;cases j with
  |zero=>simp at h;subst h;simp[jn]
  |succ j=>
   have d:m[j]?=Ts p:=QJ;have zs:=h1 p (Uv d);unfold jn;rw[if_neg zs,f c v d];rfl
def zk(m:List (K×UV))(k:K)(v):∀q∈jn m k v,q.1=k\/q∈m:=by
 induction m with
 |nil=>intro q h;simp[jn]at h;simp[h]
 |cons p m b=>
  intro q h;unfold jn at h;split at h
  .rcases VN.1 h with rfl|h
   .simp
   right;simp[h]
  rcases VN.1 h with rfl|h
  .right;simp
  rcases b q h with h|h
  .exact .inl h
  right;simp[h]
def vr{m:List (K×UV)}(b:m.Pairwise fun p q=>p.1≠q.1)(k:K)(v):(jn m k v).Pairwise fun p q=>p.1≠q.1:=by
 induction m with
 |nil=>simp[jn]
 |cons p m d=>
  obtain⟨h1,c⟩:=Y2.1 b;unfold jn;split
  .rename_i h;subst h;exact Y2.2 ⟨h1,c⟩
  rename_i h
  refine Y2.2 ⟨fun q N=>?_,d c⟩;rcases zk m k v q N with e|N
  .rw[e];exact h
  exact h1 q N
structure cW(P:Wn)(kt:WR)(enc:K->UV)(Ok:K->Prop)(w:UN)(b:Nat)(m:List (K×UV)):Prop where
 heap:∃es clock,w.heap[b]?=Ts (.map es clock)/\es.toList.map (fun e=>(e.key,e.val))=m.map (fun p=>(enc p.1,p.2))
 ok:∀p∈m,Ok p.1
 apart:m.Pairwise fun p q=>p.1≠q.1
variable {P:Wn} {kt et mt:WR} {enc:K->UV} {Ok:K->Prop} {w:UN} {b:Nat} {m:List (K×UV)}
omit [DecidableEq K]in
theorem cW.made (P:Wn) (kt:WR) (enc:K->UV) (b:K->Prop) (w:UN):cW P kt enc b (w.alloc (.map #[] 0)) w.heap.size []:=
 ⟨⟨#[],0,by have:=UZ w (.map #[] 0);exact this,rfl⟩,Pm,Yk⟩
omit [DecidableEq K]in
theorem cW.lt (h:cW P kt enc Ok w b m):b<w.heap.size:=by
 obtain⟨d,c,hb,_⟩:=h.heap;exact(UE.1 hb).1
omit [DecidableEq K]in
theorem cW.of_block {f:UN} (h:cW P kt enc Ok w b m) (hb:f.heap[b]?=w.heap[b]?):cW P kt enc Ok f b m:=by
 obtain⟨g,d,h1,c⟩:=h.heap;exact⟨⟨g,d,hb.trans h1,c⟩,h.ok,h.apart⟩
omit [DecidableEq K]in
theorem cW.fr {S:Nat->Prop} {c:UN} (h:cW P kt enc Ok w b m) (cf:Fr S w c) (z:¬S b):cW P kt enc Ok c b m:=h.of_block (cf.block b h.lt z)
omit [DecidableEq K]in
theorem cW.ext {c:UN} (h:cW P kt enc Ok w b m) (g:aq w c):cW P kt enc Ok c b m:=h.of_block (g.block b h.lt)
def cW.find(h:cW P kt enc Ok w b m)(E:vp P kt enc Ok){k:K}(o:Ok k):∃f d,w.heap[b]?=Ts (.map f d)/\f.toList.map (fun e=>(e.key,e.val))=m.map (fun p=>(enc p.1,p.2))/\
  ((fi m k=U8/\(Instr.findKey kt (enc k) f.toList).run P w= .ok U8 w)\/
   ∃j e v,fi m k=Ts v/\e.val=v/\e.key=enc k/\f.toList[j]?=Ts e/\m[j]?=Ts (k,v)/\(Instr.findKey kt (enc k) f.toList).run P w= .ok (Ts (j,v)) w):=by
 obtain⟨f,d,hb,s⟩:=h.heap;refine⟨f,d,hb,s,?_⟩;obtain⟨l,z⟩:=E.key k o;have g:∀(j:Nat)(e:MapEntry),f.toList[j]?=Ts e->∃p,m[j]?=Ts p/\e.key=enc p.1/\e.val=p.2:=fun j e q=>by
  have:=congrArg (fun l=>l[j]?) s;simp only[VU,q,Wm]at this;cases y:m[j]? with
  |none=>rw[y]at this;simp at this
  |some p=>rw[y]at this;simp at this;exact⟨p,rfl,this.1,this.2⟩
 have t:∀e∈f.toList,∃l,keyOf P kt e.key=Ts l:=fun e q=>by
  obtain⟨j,Q,rfl⟩:=List.getElem_of_mem q;obtain⟨p,x,h1,_⟩:=g j _ (V8 Q);rw[h1];exact E.key _ (h.ok p (Uv x))
 rcases E.keyed.find w z f.toList t with⟨h1,c⟩|⟨j,e,h1,c,A⟩
 .refine .inl ⟨y9.2 (fun p x r=>?_),h1⟩;obtain⟨j,Q,rfl⟩:=List.getElem_of_mem x;have:=congrArg (fun l=>l[j]?) s;simp only[VU,V8 Q,Wm]at this;cases q:f.toList[j]? with
  |none=>rw[q]at this;simp at this
  |some e=>
   rw[q]at this;simp at this;exact c e (Uv q) (by rw[this.1,r])
 obtain⟨p,x,B,u⟩:=g j e c;have r:p.1=k:=E.inj _ _ (by rw[<-B,A]);subst r;exact .inr ⟨j,e,p.2,adR h.apart x,u,A,c,x,by rw[h1,u]⟩
def cW.run_lookup(h:cW P kt enc Ok w b m)(E:vp P kt enc Ok)(f:P.underlying mt=Ts (.map kt et)){z}(q:(zeroValue et).run P w= .ok z w){k:K}(o:Ok k):
  (Instr.lookup mt (.map (Ts b)) (enc k) false).run P w= .ok ((fi m k).getD z) w:=by
 obtain⟨r,d,hb,g,cf⟩:=h.find E o;obtain⟨l,p⟩:=E.key k o;rcases cf with⟨h1,c⟩|⟨j,e,v,h1,_,_,_,_,c⟩
 .simp[Instr.lookup,Yl f,MapKept.run_getObj_map hb,E.keyed.check w _ p,c,h1,q,Result.andThen]
 simp[Instr.lookup,Yl f,MapKept.run_getObj_map hb,E.keyed.check w _ p,c,h1,Result.andThen]
def tC{w:UN}{b}{d:Array MapEntry}{c}(hb:w.heap[b]?=Ts (.map d c))(o:Obj):Fr (fun k=>k=b) w (setBlock w b o):=
 ⟨rfl,rfl,rfl,by simp[setBlock],fun i _ hi=>heap_setBlock_other hb _ hi⟩
def cW.run_update(h:cW P kt enc Ok w b m)(E:vp P kt enc Ok)(y:P.underlying mt=Ts (.map kt et)){k:K}(o:Ok k)(v):
  ∃q,(Instr.mapUpdate mt (.map (Ts b)) (enc k) v).run P w= .ok () q/\cW P kt enc Ok q b (jn m k v)/\Fr (fun k=>k=b) w q/\q.heap.size=w.heap.size:=by
 obtain⟨r,d,hb,f,cf⟩:=h.find E o;obtain⟨l,s⟩:=E.key k o;have g:∀p∈jn m k v,Ok p.1:=fun p x=>by
  rcases zk m k v p x with e|x
  .rw[e];exact o
  exact h.ok p x
 rcases cf with⟨h1,c⟩|⟨j,e,u,h1,A,C,t,z,c⟩
 .refine⟨setBlock w b (.map (r.push ⟨enc k,v,d⟩) (d+1)),?_,⟨⟨_,_,heap_setBlock_same hb _,?_⟩,g,vr h.apart k v⟩,tC hb _,by simp[setBlock]⟩
  .simp[Instr.mapUpdate,Yl y,MapKept.run_getObj_map hb,E.keyed.check w false s,c,MapKept.run_setObj_map _ hb,Result.andThen,setBlock]
  rw[Ef h1];simp[f]
 have Q:r[j]?=Ts e:=by simpa using t
 refine⟨setBlock w b (.map (r.modify j (fun B=>{B with key:=enc k,val:=v})) d),?_,⟨⟨_,_,heap_setBlock_same hb _,?_⟩,g,vr h.apart k v⟩,tC hb _,by simp[setBlock]⟩
 .simp[Instr.mapUpdate,Yl y,MapKept.run_getObj_map hb,E.keyed.check w false s,c,Q,C,E.keyed.stays w s,MapKept.run_setObj_map _ hb,Result.andThen,setBlock]
 rw[acU h.apart (p:=(k,u)) v z,Array.toList_modify,ChangeMaps.modify_eq_set _ _ _ _ t,List.map_set,List.map_set,f]
omit [DecidableEq K]in
theorem cW.run_len (h:cW P kt enc Ok w b m) (j:P.underlying mt=Ts (.map kt et)) (g:WR):(Builtin.len_ #[mt] g #[.map (Ts b)]).run P w= .ok (Ti Tl m.length) w:=by
 obtain⟨f,d,hb,c⟩:=h.heap;have p:f.size=m.length:=by have:=congrArg Xt c;simpa using this
 simp[Builtin.len_,Yl j,MapKept.run_getObj_map hb,Result.andThen,p,goInt]
variable {ops:Array Xd} {rest:List Xd} {o:Xd} {a:Act} {Q:Exit->Act->UN->Prop}
def cK(S:o.guard=U8)(j x v:Operand)(t)(g:o.op=Op.mapUpdate t j x v)(E:vp P kt enc Ok)(s:P.underlying t=Ts (.map kt et))(z:a.eval j= .map (Ts b))(h:cW P kt enc Ok w b m)(k:K)(val)(y:a.eval x=enc k)(p:a.eval v=val)(u:Ok k)(H:∀c,cW P kt enc Ok c b (jn m k val)->Fr (fun k=>k=b) w c->c.heap.size=w.heap.size->wpList P ops Q rest (a.put o.dst VM) c):
  wpList P ops Q (o::rest) a w:=by
 refine wpList_plain S fun A f=>?_;obtain⟨c,d,q,r,l⟩:=h.run_update E s u val;unfold Oper.wp;simp[execOp,g,z,y,p,d,Result.andThen];exact f _ _ (H c q r l)
end
def uL{P:Wn}{kt}(o:P.underlying kt=Ts .string):vp P kt UH (fun s:ByteArray=>s.size<=VL) where
 keyed:=string_keyed o
 key:=fun s z=>⟨.string s.data.toList,by simp[keyOf,o,mapKey,z]⟩
 inj:=fun a b h=>by cases h;rfl
def acJ{P:Wn}{kt q}(o:P.underlying kt=Ts (.int q)):vp P kt (Ti q) (fun n:Int=>(Lit.int q n).wf=true) where
 keyed:=int_keyed o
 key:=fun n hn=>⟨_,keyOf_int_mk o hn⟩
 inj:=fun a b h=>by cases h;rfl
end
section
open Go.Maps
def pF(base)(t j e:WR)(i:TypeInfo)(size)(d:P.underlying t=Ts (.slice e))(hi:P.info? e=Ts i)(v)(n c:Nat)(l)(r:w.ownsRow base e size v n l):
  (YU #[t,t] j #[v,.slice U8 0 c]).run P w= .ok v w:=by
 rcases r.2 with⟨rfl,rfl⟩|⟨g,cap,f,rfl,_,_,b,_⟩
 .simp[YU,Yl d,sizeOf,typeInfo,hi,Builtin.lenOf,Builtin.firstCells]
 simp[YU,Yl d,sizeOf,typeInfo,hi,Builtin.lenOf,Builtin.firstCells,b,storeCells]
def aX{rest}{a:Act}(y:o.guard=U8)(s x:Operand)(t)(R:o.op= .call {callee:= .builtin .append,args:=#[s,x],argTypes:=#[t,t]})(base e)(i:TypeInfo)(z:UV)(size bytes:Nat)(O:P.underlying t=Ts (.slice e))(hi:P.info? e=Ts i)(S:i.zero=Ts z)(l:i.size=size)(I:i.bytes=bytes)(G:z.cells.size=size)(J:0<size)(v n E)(M:a.eval s=v)(r:w.ownsRow base e size v n E)(oa m c)(d:List UV)(N:a.eval x= .slice oa m c)(p:d.length=m*size)(g:∀C,oa=Ts C->∀(j:Nat)(u:UV),d[j]?=Ts u->w.cell? (C.add j)=Ts u)(L:oa=U8->m=0)(h1:∀u∈d,u.oneCell'=true)(F:n+m<=VL)(f:(n+m)*bytes<=140737488355328)(q:base<=w.heap.size)(h:∀D B,B.ownsRow base e size D (n+m) (E++d)->w.grownBy B v.ownBlock->wpList P ops Q rest (a.put o.dst D) B):wpList P ops Q (o::rest) a w:=by
 cases oa with
 |some C=>exact wpList_append_own w y s x t R base e i z size bytes O hi S l I G J v n E M r C m c d N p (g C rfl) h1 F f q fun D B a b _=>h D B a b
 |none=>
  obtain rfl:=L rfl;obtain rfl:d=[]:=VA (by rw[p,Yx]);refine wpList_plain y fun K H=>have A:=pF (P:=P) (w:=w) base t o.type e i size O hi v n c E r;?_;unfold Oper.wp;simp[execOp,R,resolve,invoke,builtin,M,N,A,Result.andThen];exact H _ _ (h _ _ (by simpa using r) ⟨rfl,rfl,rfl,UY _,fun _ _ _=>rfl⟩)
end
end Go.Proofs.YtjmgalpkbkcmkaaGreatDoor

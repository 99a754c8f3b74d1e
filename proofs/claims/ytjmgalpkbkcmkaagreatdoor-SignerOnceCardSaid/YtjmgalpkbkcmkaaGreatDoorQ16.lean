/- Lemmas for SignerOnce. Conditions: in each statement. -/
import Derived.Test.YtjmgalpkbkcmkaaGreatDoorQ15
set_option maxRecDepth 100000
set_option maxHeartbeats 16000000
set_option linter.all false
namespace Go.Proofs.YtjmgalpkbkcmkaaGreatDoor.lawSignerOnce
open Go.Proofs.YtjmgalpkbkcmkaaGreatDoor
open Go.Proofs.Tryz renaming prog->UB
open Go.Value renaming slice->Tm
open Go.ChangeShapes Go.WideShapes Go.ChangeAt Go.RowKit
open Go.ChangeMaps (open_string)
set_option maxRecDepth 100000 in
theorem OS(H:Type)(enc:TypeId×Value->H)(W:World)(base:Nat)(args:Array Value)(ds gs:List (DataW H))(b:List MemPlace)
  (c:∀(j:Nat)t v,Tryz.f3.params[j]?=some t->args[j]?=some v->Value.okWide UB W .any base t v)
  (C:DataW.Whole enc UB Tryz.f3.params.toList Rows.signerOnceSpec.vars false W args.toList ds gs b) (B:W.ShapedOpen UB) (d:laidMetH UB xw W):
  Calls UB 3 args W fun e F=>∃v,e=Ending.returned v/\Rows.signerOnceSpec.post enc UB Tryz.f3 false true false false W args v F:=by
 have f:∀t∈Tryz.f3.params.toList,UB.readableRec t=true/\t<UB.types.size:=by
  rw[Tryz.params3];intro t O;obtain rfl:t=22:=by simpa using O
  exact⟨Pg,of_decide_eq_true Pg⟩
 have Y:=C;obtain⟨p,q,y,S,rfl,I,P⟩:=Y;have D:DataW.TrodAll enc UB W 0 (fun _=>true) true Tryz.f3.params.toList args.toList ds p:=y;rw[Tryz.params3]at D c;obtain⟨v0,K,R,J,p0,q0,z,rfl,rfl,L,Q⟩:=trodAll_cons D;obtain⟨rfl,rfl,rfl⟩:=trodAll_nil Q;obtain rfl:args=#[v0]:=by cases args;simp_all
 have x:=yo.of_trod L;obtain⟨l,A,m,rfl⟩:=okWide_slice Tryz.underlying22 (c 0 22 v0 rfl rfl);obtain⟨a0,E,c0,N,r,s,u⟩:=aaH x;have f0:[Tm l A m]=[Tm a0 E.length c0]:=N;cases f0;have M:xB W:=Tryz.laysM219.s1_3 W B;have o:aU W:=NZ d;refine(LW E l _ m W M o rfl (by have:=r;have:=s;unfold maxLen at*;omega) r u).mono fun e F⟨G,g⟩=>?_;subst G;exact⟨_,rfl,LP C rfl f ⟨rfl,rfl,rfl⟩ rfl g⟩
theorem ahT(os:Os){H:Type}(enc:TypeId×Value->H):∃b,DataW.whole enc UB ((jo os).forCall (fun _ _=>0) ⟨#[],#[zz],[]⟩).memory Tryz.f3.params.toList Rows.signerOnceSpec.vars false (#[zz]).toList 8=some ([.nil],[],b):=
 ⟨[],Pg⟩
set_option maxRecDepth 100000 in
theorem af9(os:Os)(b:os.Started)(H:Type)(enc:TypeId×Value->H)(F:Stop.Interp):
  ReturnsInHanded {} Tryz.checked os 3 .any ((OpenSpec.ofChange Rows.signerOnceSpec).preRow enc UB Tryz.f3 Rows.signerOnceRow.domain false Rows.signerOnceRow.laid) (((OpenSpec.ofChange Rows.signerOnceSpec).at F).post enc UB Tryz.f3 false true false false):=by
 obtain⟨g,m⟩:=ahT os enc;refine returnsInHanded_of_row (C:=Tryz.checked) (s:=OpenSpec.ofChange Rows.signerOnceSpec) own b Pg Tryz.func3
  (witness_row_at (enc:=enc) (C:=Tryz.checked) false (jo os) #[zz] rfl (af1 os _) (agR os _) Pg
   (OpenSpec.preRow_of_cond 8 m Pg (fun k o=>Zbz) Pg (Hf os _))) ?_
 intro W base args ds gs c f l _ _ _ d j _;exact OS H enc W base args ds gs c f l j d
end Go.Proofs.YtjmgalpkbkcmkaaGreatDoor.lawSignerOnce

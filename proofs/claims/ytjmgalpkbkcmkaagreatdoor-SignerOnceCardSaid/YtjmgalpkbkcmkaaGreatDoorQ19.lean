/- SignerOnce: an honest signer commits to one body of a serial number, and of a session, through all crashes. Conditions: none beyond the row; Q00 to Q18 hold its lemmas. -/
import Derived.Test.YtjmgalpkbkcmkaaGreatDoorQ18
set_option maxRecDepth 100000
set_option maxHeartbeats 16000000
set_option linter.all false
namespace Go.Proofs.YtjmgalpkbkcmkaaGreatDoor.lawSignerOnce
open Go.Proofs.YtjmgalpkbkcmkaaGreatDoor
open Go.Proofs.Tryz renaming prog->UB
open Option.some renaming inj->Vm
open Go.ChangeShapes Go.WideShapes Go.ChangeAt Go.RowKit
open Go.ChangeMaps (open_string)
theorem plain(f:FuncId)(fn:Func)(cf:Tryz.pinned.checked.prog.funcNamed "greatseal/greatseallaw25.SignerOnce"=some f)(b:Tryz.pinned.checked.prog.funcs[f]? =some fn):
  true=Tryz.pinned.checked.prog.looks []∧∀(j:Nat) t,fn.params[j]? =some t→Tryz.pinned.checked.prog.wantsStandIn t=false:=by
 obtain rfl:f=3:=Vm ((show UB.funcNamed "greatseal/greatseallaw25.SignerOnce"=some 3 from Pg).symm.trans cf)|>.symm;obtain rfl:fn=Tryz.f3:=(Vm (Tryz.func3.symm.trans b)).symm;refine ⟨Pg,fun j t c=>?_⟩;rw[Tryz.params3] at c;have K:=Array.mem_of_getElem? c;obtain rfl:t=22:=by simpa using K
 exact (show UB.wantsStandIn 22=false from Pg)
theorem card:Rows.SignerOnceCardSaid:=
 Claim7.holds_tied_plain_at .later [] _ _ _ _ ajG (fun _ h=>Rw) Pg (fun _ h=>Rw) signerOnce_row_tie rfl ⟨rfl,rfl⟩ Pg rfl plain Pg
end Go.Proofs.YtjmgalpkbkcmkaaGreatDoor.lawSignerOnce

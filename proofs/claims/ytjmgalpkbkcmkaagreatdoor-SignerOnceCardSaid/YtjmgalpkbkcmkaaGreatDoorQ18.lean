/- Lemmas for SignerOnce. Conditions: in each statement. -/
import Derived.Test.YtjmgalpkbkcmkaaGreatDoorQ16
import Derived.Test.YtjmgalpkbkcmkaaGreatDoorQ17
set_option maxRecDepth 100000
set_option maxHeartbeats 16000000
set_option linter.all false
namespace Go.Proofs.YtjmgalpkbkcmkaaGreatDoor.lawSignerOnce
open Go.Proofs.YtjmgalpkbkcmkaaGreatDoor
open Go.ChangeShapes Go.WideShapes Go.ChangeAt Go.RowKit
theorem ajG:Rows.SignerOnceSaid:=
 OpenClaim.holds_of_cond 3 Tryz.f3 rfl rfl rfl rfl rfl rfl rfl ⟨rfl,rfl,rfl,rfl,rfl⟩ rfl rfl rfl rfl rfl Pg Tryz.func3 closed
  (of_decide_eq_true Pg) (by unfold Func.isWrapper;first|(rw[if_pos Pj];kernel_rfl)|(rw[if_neg Pj];exact⟨rfl,rfl⟩))
  (fun os b H enc _ F=>by rw[OpenClaim.pre_eq_preRow];exact af9 os b H enc F)
end Go.Proofs.YtjmgalpkbkcmkaaGreatDoor.lawSignerOnce

import Derived.Test.YtjmgalpkbkcmkaaGreatDoorQ01
import Derived.Test.YtjmgalpkbkcmkaaGreatDoorCards
import Derived.Test.YtjmgalpkbkcmkaaGreatDoorTie
set_option maxRecDepth 100000
set_option maxHeartbeats 16000000
set_option linter.all false
namespace Go.Proofs.YtjmgalpkbkcmkaaGreatDoor.lawSignerOnce
open Go.Proofs.YtjmgalpkbkcmkaaGreatDoor
open Go.ChangeShapes Go.WideShapes Go.ChangeAt Go.RowKit
theorem j1:(Rows.signerOnceRow.inPlace==Tryz.pinned.checked.prog.inPlace 3)=true:=Pg
theorem j2:(Rows.signerOnceRow.unfollowed==Tryz.pinned.checked.prog.unfollowed 3)=true:=Pg
theorem j3:(Rows.signerOnceRow.recurses==Tryz.pinned.checked.prog.recurses 3)=true:=Pg
theorem j4:(Rows.signerOnceRow.named==Tryz.pinned.checked.prog.varsNamed 3)=true:=Pg
theorem closed:joinedFacts Tryz.pinned.checked.prog 3 Tryz.f3 (OpenSpec.ofChange Rows.signerOnceSpec).bare Rows.signerOnceRow=true:=by
 unfold joinedFacts;rw[j1,j2,j3,j4];kernel_rfl
end Go.Proofs.YtjmgalpkbkcmkaaGreatDoor.lawSignerOnce

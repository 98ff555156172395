import Derived.Test.YtbgbdoljnomakaaGreatDoorProg
import Derived.LaidByTextLater
import Derived.KernelRfl
/- The number of the function that lays the listed variables. -/
namespace Go.Proofs.YtbgbdoljnomakaaGreatDoor
open Go
theorem varsNum : Tryz.prog.funcNamed "gosem.cut.vars" = some 689 := by kernel_rfl
theorem varsId_eq : varsId Tryz.prog = 689 := by unfold varsId; rw [varsNum]; rfl
end Go.Proofs.YtbgbdoljnomakaaGreatDoor

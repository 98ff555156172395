/- The number of the function that lays the listed variables. -/
import Derived.Test.YtlaapfclbfkbhaaGreatDoorProg
import Derived.LaidByTextLater
import Derived.KernelRfl
namespace Go.Proofs.YtlaapfclbfkbhaaGreatDoor
open Go
theorem varsNum : Tryz.prog.funcNamed "gosem.cut.vars" = some 678 := by kernel_rfl
theorem varsId_eq : varsId Tryz.prog = 678 := by unfold varsId; rw [varsNum]; rfl
end Go.Proofs.YtlaapfclbfkbhaaGreatDoor

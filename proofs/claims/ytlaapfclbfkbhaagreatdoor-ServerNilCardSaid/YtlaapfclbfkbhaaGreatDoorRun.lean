/- The law 'ServerNil', run by the abstract machine with an event whose eight cells are any: it ends in 'true'. -/
import Derived.Test.YtlaapfclbfkbhaaGreatDoorProg
import Derived.KernelRfl
import Derived.Test.YtlaapfclbfkbhaaGreatDoorAmSim
namespace Go.Proofs.YtlaapfclbfkbhaaGreatDoor
open Go.AM
noncomputable def h0 : AM.Heap := ⟨T.set .free 4 .leaf (.cells (rowSet .leaf 0 (.ext 8)) 1 108 false 0 false true), 11⟩
noncomputable def ev0 : AV := .agg (AV.ofList [.ext 0, .ext 1, .ext 2, .ext 3, .ext 4, .ext 5, .ext 6, .ext 7])
theorem run_true : evalOk Tryz.prog 16 40000 3 [ev0] h0 = true := by kernel_rfl
end Go.Proofs.YtlaapfclbfkbhaaGreatDoor

/- The closed facts of the row, one by one. -/
import Derived.Test.YtlaapfclbfkbhaaGreatDoorRows
import Derived.Test.YtlaapfclbfkbhaaGreatDoorFactA
namespace Go.Proofs.YtlaapfclbfkbhaaGreatDoor
open Go
theorem fact1 : Rows.serverNilRow.wf (OpenSpec.ofChange Rows.serverNilSpec) = true := by kernel_rfl
theorem fact3 : mapsRowed Tryz.prog = true := by kernel_rfl
theorem fact4 : Tryz.f3.params.all (Tryz.prog.readableRec ·) = true := by kernel_rfl
theorem fact5 : namedTie Tryz.prog Rows.serverNilRow.named Rows.serverNilSpec.vars = true := by kernel_rfl
theorem fact7 : (Tryz.prog.stops == []) = true := by kernel_rfl
theorem fact9 : (Tryz.prog.stopKnobs == []) = true := by kernel_rfl
end Go.Proofs.YtlaapfclbfkbhaaGreatDoor

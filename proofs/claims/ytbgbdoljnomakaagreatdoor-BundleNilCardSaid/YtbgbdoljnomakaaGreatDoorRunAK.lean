/- Parts of the run. -/
import Derived.Test.YtbgbdoljnomakaaGreatDoorStatA
namespace Go.Proofs.YtbgbdoljnomakaaGreatDoor
open Go Go.AM
theorem ac23 : chkD (@runF sums Tryz.prog 8 34088 as23) = some (.bool true) := by kernel_rfl
end Go.Proofs.YtbgbdoljnomakaaGreatDoor

/- Parts of the run. -/
import Derived.Test.YtbgbdoljnomakaaGreatDoorLStatA
namespace Go.Proofs.YtbgbdoljnomakaaGreatDoor
open Go Go.AM
theorem bc23 : chkD (@runF (sumsL true) Tryz.prog 8 35252 bs23) = some (.bool true) := by kernel_rfl
end Go.Proofs.YtbgbdoljnomakaaGreatDoor

/- Parts of the run. -/
import Derived.Test.YtbgbdoljnomakaaGreatDoorStatA
namespace Go.Proofs.YtbgbdoljnomakaaGreatDoor
open Go Go.AM
theorem ac0 : chk Tryz.prog [3, 10, 11, 12, 13, 14, 15, 16, 17, 18, 19, 20, 21, 22, 113] (@runF sums Tryz.prog 8 32395 as0) = some as1 := by kernel_rfl
theorem ac1 : chk Tryz.prog [3, 10, 11, 12, 13, 14, 15, 16, 17, 18, 19, 20, 21] (@runF sums Tryz.prog 8 32680 as1) = some as2 := by kernel_rfl
end Go.Proofs.YtbgbdoljnomakaaGreatDoor

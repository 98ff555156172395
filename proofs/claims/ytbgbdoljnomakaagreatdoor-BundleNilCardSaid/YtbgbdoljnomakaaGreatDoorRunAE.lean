/- Parts of the run. -/
import Derived.Test.YtbgbdoljnomakaaGreatDoorStatA
namespace Go.Proofs.YtbgbdoljnomakaaGreatDoor
open Go Go.AM
theorem ac10 : chk Tryz.prog [3, 10, 11, 12, 13, 14, 15, 16, 17, 18, 19, 415, 421, 422, 563, 573, 576, 577, 578, 985, 995, 1002, 1008, 1026, 1033, 1173] (@runF sums Tryz.prog 8 22192 as10) = some as11 := by kernel_rfl
theorem ac11 : chk Tryz.prog [3, 10, 11, 12, 13, 14, 15, 16, 17, 18, 1178, 1180] (@runF sums Tryz.prog 8 31008 as11) = some as12 := by kernel_rfl
end Go.Proofs.YtbgbdoljnomakaaGreatDoor

/- Parts of the run. -/
import Derived.Test.YtbgbdoljnomakaaGreatDoorStatA
namespace Go.Proofs.YtbgbdoljnomakaaGreatDoor
open Go Go.AM
theorem ac8 : chk Tryz.prog [3, 10, 11, 12, 13, 14, 15, 16, 17, 18, 19, 415, 421, 422, 563, 573, 576, 577, 578, 579, 580] (@runF sums Tryz.prog 8 33250 as8) = some as9 := by kernel_rfl
theorem ac9 : chk Tryz.prog [3, 10, 11, 12, 13, 14, 15, 16, 17, 18, 19, 415, 421, 422, 563, 573, 576, 577, 578, 579, 680, 681, 682, 685, 689, 690, 691, 711, 712, 713, 714, 718, 719, 720, 804, 805, 806, 807] (@runF sums Tryz.prog 8 21641 as9) = some as10 := by kernel_rfl
end Go.Proofs.YtbgbdoljnomakaaGreatDoor

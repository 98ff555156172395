/- Parts of the run. -/
import Derived.Test.YtbgbdoljnomakaaGreatDoorStatA
namespace Go.Proofs.YtbgbdoljnomakaaGreatDoor
open Go Go.AM
theorem ac2 : chk Tryz.prog [3, 10, 11, 12, 13, 14, 15, 16, 17, 18, 19, 415, 421, 422, 432, 433, 434, 435, 447, 448, 449, 467, 468, 476, 477, 478] (@runF sums Tryz.prog 8 20587 as2) = some as3 := by kernel_rfl
theorem ac3 : @chkB sums Tryz.prog 8 27 [3, 10, 11, 12, 13, 14, 15, 16, 17, 18, 19, 415, 421, 422, 432, 433, 434, 435, 447, 448, 449, 467, 468, 476, 477, 478] [6, 7, 26, 28, 29, 30, 31] [478] (@runF sums Tryz.prog 8 1 as3) = some (au4.map fun k => aj4 [k]) := by kernel_rfl
theorem at4x1 : (av4x1.map fun S => @chkB sums Tryz.prog 8 27 [3, 10, 11, 12, 13, 14, 15, 16, 17, 18, 19, 415, 421, 422, 432, 433, 434, 435, 447, 448, 449, 467, 468, 476, 477, 478] [6, 7, 26, 28, 29, 30, 31] [478] (@runF sums Tryz.prog 8 1 (aj4 S))) = av4x1.map fun S => some ((remN au4 S).map fun k => aj4 (insN k S)) := by kernel_rfl
theorem am4x1 : (av4x1.all fun S => (remN au4 S).all fun k => av4x2.contains (insN k S)) = true := by kernel_rfl
theorem at4x2 : (av4x2.map fun S => @chkB sums Tryz.prog 8 27 [3, 10, 11, 12, 13, 14, 15, 16, 17, 18, 19, 415, 421, 422, 432, 433, 434, 435, 447, 448, 449, 467, 468, 476, 477, 478] [6, 7, 26, 28, 29, 30, 31] [478] (@runF sums Tryz.prog 8 1 (aj4 S))) = av4x2.map fun S => some ((remN au4 S).map fun k => aj4 (insN k S)) := by kernel_rfl
theorem am4x2 : (av4x2.all fun S => (remN au4 S).all fun k => av4x3.contains (insN k S)) = true := by kernel_rfl
theorem at4x3 : (av4x3.map fun S => @chkB sums Tryz.prog 8 27 [3, 10, 11, 12, 13, 14, 15, 16, 17, 18, 19, 415, 421, 422, 432, 433, 434, 435, 447, 448, 449, 467, 468, 476, 477, 478] [6, 7, 26, 28, 29, 30, 31] [478] (@runF sums Tryz.prog 8 1 (aj4 S))) = av4x3.map fun S => some ((remN au4 S).map fun k => aj4 (insN k S)) := by kernel_rfl
theorem am4x3 : (av4x3.all fun S => (remN au4 S).all fun k => av4x4.contains (insN k S)) = true := by kernel_rfl
theorem at4x4 : (av4x4.map fun S => @chkB sums Tryz.prog 8 27 [3, 10, 11, 12, 13, 14, 15, 16, 17, 18, 19, 415, 421, 422, 432, 433, 434, 435, 447, 448, 449, 467, 468, 476, 477, 478] [6, 7, 26, 28, 29, 30, 31] [478] (@runF sums Tryz.prog 8 1 (aj4 S))) = av4x4.map fun S => some ((remN au4 S).map fun k => aj4 (insN k S)) := by kernel_rfl
theorem am4x4 : (av4x4.all fun S => (remN au4 S).all fun k => av4x5.contains (insN k S)) = true := by kernel_rfl
theorem at4x5 : (av4x5.map fun S => @chkB sums Tryz.prog 8 27 [3, 10, 11, 12, 13, 14, 15, 16, 17, 18, 19, 415, 421, 422, 432, 433, 434, 435, 447, 448, 449, 467, 468, 476, 477, 478] [6, 7, 26, 28, 29, 30, 31] [478] (@runF sums Tryz.prog 8 1 (aj4 S))) = av4x5.map fun S => some ((remN au4 S).map fun k => aj4 (insN k S)) := by kernel_rfl
theorem am4x5 : (av4x5.all fun S => (remN au4 S).all fun k => av4x6.contains (insN k S)) = true := by kernel_rfl
theorem at4x6 : (av4x6.map fun S => chkW Tryz.prog [3, 10, 11, 12, 13, 14, 15, 16, 17, 18, 19, 415, 421, 422, 432, 433, 434, 435, 447, 448, 449, 467, 468, 476, 477, 478] [6, 7, 26, 28, 29, 30, 31] [478] (@runF sums Tryz.prog 8 28 (aj4 S))) = av4x6.map fun _ => some (aj4 au4) := by kernel_rfl
theorem ac4 : chk Tryz.prog [3, 10, 11, 12, 13, 14, 15, 16, 17, 18, 19, 415, 421, 422, 432, 433, 467, 483, 484, 485, 496, 504, 505, 506] (@runF sums Tryz.prog 8 2112 as4) = some as5 := by kernel_rfl
theorem ac5 : @chkB sums Tryz.prog 8 27 [3, 10, 11, 12, 13, 14, 15, 16, 17, 18, 19, 415, 421, 422, 432, 433, 467, 483, 484, 485, 496, 504, 505, 506] [6, 7, 26, 28, 29, 30, 31] [506] (@runF sums Tryz.prog 8 1 as5) = some (au6.map fun k => aj6 [k]) := by kernel_rfl
theorem at6x1 : (av6x1.map fun S => @chkB sums Tryz.prog 8 27 [3, 10, 11, 12, 13, 14, 15, 16, 17, 18, 19, 415, 421, 422, 432, 433, 467, 483, 484, 485, 496, 504, 505, 506] [6, 7, 26, 28, 29, 30, 31] [506] (@runF sums Tryz.prog 8 1 (aj6 S))) = av6x1.map fun S => some ((remN au6 S).map fun k => aj6 (insN k S)) := by kernel_rfl
theorem am6x1 : (av6x1.all fun S => (remN au6 S).all fun k => av6x2.contains (insN k S)) = true := by kernel_rfl
end Go.Proofs.YtbgbdoljnomakaaGreatDoor

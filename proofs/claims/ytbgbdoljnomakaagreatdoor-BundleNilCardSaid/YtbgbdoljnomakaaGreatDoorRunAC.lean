/- Parts of the run. -/
import Derived.Test.YtbgbdoljnomakaaGreatDoorStatA
namespace Go.Proofs.YtbgbdoljnomakaaGreatDoor
open Go Go.AM
theorem at6x2 : (av6x2.map fun S => @chkB sums Tryz.prog 8 27 [3, 10, 11, 12, 13, 14, 15, 16, 17, 18, 19, 415, 421, 422, 432, 433, 467, 483, 484, 485, 496, 504, 505, 506] [6, 7, 26, 28, 29, 30, 31] [506] (@runF sums Tryz.prog 8 1 (aj6 S))) = av6x2.map fun S => some ((remN au6 S).map fun k => aj6 (insN k S)) := by kernel_rfl
theorem am6x2 : (av6x2.all fun S => (remN au6 S).all fun k => av6x3.contains (insN k S)) = true := by kernel_rfl
theorem at6x3 : (av6x3.map fun S => @chkB sums Tryz.prog 8 27 [3, 10, 11, 12, 13, 14, 15, 16, 17, 18, 19, 415, 421, 422, 432, 433, 467, 483, 484, 485, 496, 504, 505, 506] [6, 7, 26, 28, 29, 30, 31] [506] (@runF sums Tryz.prog 8 1 (aj6 S))) = av6x3.map fun S => some ((remN au6 S).map fun k => aj6 (insN k S)) := by kernel_rfl
theorem am6x3 : (av6x3.all fun S => (remN au6 S).all fun k => av6x4.contains (insN k S)) = true := by kernel_rfl
theorem at6x4 : (av6x4.map fun S => @chkB sums Tryz.prog 8 27 [3, 10, 11, 12, 13, 14, 15, 16, 17, 18, 19, 415, 421, 422, 432, 433, 467, 483, 484, 485, 496, 504, 505, 506] [6, 7, 26, 28, 29, 30, 31] [506] (@runF sums Tryz.prog 8 1 (aj6 S))) = av6x4.map fun S => some ((remN au6 S).map fun k => aj6 (insN k S)) := by kernel_rfl
theorem am6x4 : (av6x4.all fun S => (remN au6 S).all fun k => av6x5.contains (insN k S)) = true := by kernel_rfl
theorem at6x5 : (av6x5.map fun S => @chkB sums Tryz.prog 8 27 [3, 10, 11, 12, 13, 14, 15, 16, 17, 18, 19, 415, 421, 422, 432, 433, 467, 483, 484, 485, 496, 504, 505, 506] [6, 7, 26, 28, 29, 30, 31] [506] (@runF sums Tryz.prog 8 1 (aj6 S))) = av6x5.map fun S => some ((remN au6 S).map fun k => aj6 (insN k S)) := by kernel_rfl
theorem am6x5 : (av6x5.all fun S => (remN au6 S).all fun k => av6x6.contains (insN k S)) = true := by kernel_rfl
theorem at6x6 : (av6x6.map fun S => chkW Tryz.prog [3, 10, 11, 12, 13, 14, 15, 16, 17, 18, 19, 415, 421, 422, 432, 433, 467, 483, 484, 485, 496, 504, 505, 506] [6, 7, 26, 28, 29, 30, 31] [506] (@runF sums Tryz.prog 8 28 (aj6 S))) = av6x6.map fun _ => some (aj6 au6) := by kernel_rfl
theorem ac6 : chk Tryz.prog [3, 10, 11, 12, 13, 14, 15, 16, 17, 18, 19, 415, 421, 422, 432, 433, 467, 483, 527, 528, 529, 530, 541, 549, 550, 551] (@runF sums Tryz.prog 8 2816 as6) = some as7 := by kernel_rfl
theorem ac7 : @chkB sums Tryz.prog 8 27 [3, 10, 11, 12, 13, 14, 15, 16, 17, 18, 19, 415, 421, 422, 432, 433, 467, 483, 527, 528, 529, 530, 541, 549, 550, 551] [6, 7, 26, 28, 29, 30, 31] [551] (@runF sums Tryz.prog 8 1 as7) = some (au8.map fun k => aj8 [k]) := by kernel_rfl
theorem at8x1 : (av8x1.map fun S => @chkB sums Tryz.prog 8 27 [3, 10, 11, 12, 13, 14, 15, 16, 17, 18, 19, 415, 421, 422, 432, 433, 467, 483, 527, 528, 529, 530, 541, 549, 550, 551] [6, 7, 26, 28, 29, 30, 31] [551] (@runF sums Tryz.prog 8 1 (aj8 S))) = av8x1.map fun S => some ((remN au8 S).map fun k => aj8 (insN k S)) := by kernel_rfl
theorem am8x1 : (av8x1.all fun S => (remN au8 S).all fun k => av8x2.contains (insN k S)) = true := by kernel_rfl
theorem at8x2 : (av8x2.map fun S => @chkB sums Tryz.prog 8 27 [3, 10, 11, 12, 13, 14, 15, 16, 17, 18, 19, 415, 421, 422, 432, 433, 467, 483, 527, 528, 529, 530, 541, 549, 550, 551] [6, 7, 26, 28, 29, 30, 31] [551] (@runF sums Tryz.prog 8 1 (aj8 S))) = av8x2.map fun S => some ((remN au8 S).map fun k => aj8 (insN k S)) := by kernel_rfl
theorem am8x2 : (av8x2.all fun S => (remN au8 S).all fun k => av8x3.contains (insN k S)) = true := by kernel_rfl
theorem at8x3 : (av8x3.map fun S => @chkB sums Tryz.prog 8 27 [3, 10, 11, 12, 13, 14, 15, 16, 17, 18, 19, 415, 421, 422, 432, 433, 467, 483, 527, 528, 529, 530, 541, 549, 550, 551] [6, 7, 26, 28, 29, 30, 31] [551] (@runF sums Tryz.prog 8 1 (aj8 S))) = av8x3.map fun S => some ((remN au8 S).map fun k => aj8 (insN k S)) := by kernel_rfl
theorem am8x3 : (av8x3.all fun S => (remN au8 S).all fun k => av8x4.contains (insN k S)) = true := by kernel_rfl
theorem at8x4 : (av8x4.map fun S => @chkB sums Tryz.prog 8 27 [3, 10, 11, 12, 13, 14, 15, 16, 17, 18, 19, 415, 421, 422, 432, 433, 467, 483, 527, 528, 529, 530, 541, 549, 550, 551] [6, 7, 26, 28, 29, 30, 31] [551] (@runF sums Tryz.prog 8 1 (aj8 S))) = av8x4.map fun S => some ((remN au8 S).map fun k => aj8 (insN k S)) := by kernel_rfl
theorem am8x4 : (av8x4.all fun S => (remN au8 S).all fun k => av8x5.contains (insN k S)) = true := by kernel_rfl
theorem at8x5 : (av8x5.map fun S => @chkB sums Tryz.prog 8 27 [3, 10, 11, 12, 13, 14, 15, 16, 17, 18, 19, 415, 421, 422, 432, 433, 467, 483, 527, 528, 529, 530, 541, 549, 550, 551] [6, 7, 26, 28, 29, 30, 31] [551] (@runF sums Tryz.prog 8 1 (aj8 S))) = av8x5.map fun S => some ((remN au8 S).map fun k => aj8 (insN k S)) := by kernel_rfl
theorem am8x5 : (av8x5.all fun S => (remN au8 S).all fun k => av8x6.contains (insN k S)) = true := by kernel_rfl
theorem at8x6 : (av8x6.map fun S => chkW Tryz.prog [3, 10, 11, 12, 13, 14, 15, 16, 17, 18, 19, 415, 421, 422, 432, 433, 467, 483, 527, 528, 529, 530, 541, 549, 550, 551] [6, 7, 26, 28, 29, 30, 31] [551] (@runF sums Tryz.prog 8 28 (aj8 S))) = av8x6.map fun _ => some (aj8 au8) := by kernel_rfl
end Go.Proofs.YtbgbdoljnomakaaGreatDoor

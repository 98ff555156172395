/- Parts of the run. -/
import Derived.Test.YtbgbdoljnomakaaGreatDoorLStatA
namespace Go.Proofs.YtbgbdoljnomakaaGreatDoor
open Go Go.AM
theorem bc2 : chk Tryz.prog [3, 8, 11, 12, 13, 14, 15, 16, 17, 18, 19, 20, 416, 422, 423, 433, 434, 435, 436, 448, 449, 450, 468, 469, 477, 478, 479] (@runF (sumsL true) Tryz.prog 8 19103 bs2) = some bs3 := by kernel_rfl
theorem bc3 : @chkB (sumsL true) Tryz.prog 8 27 [3, 8, 11, 12, 13, 14, 15, 16, 17, 18, 19, 20, 416, 422, 423, 433, 434, 435, 436, 448, 449, 450, 468, 469, 477, 478, 479] [6, 7, 26, 28, 29, 30, 31] [479] (@runF (sumsL true) Tryz.prog 8 1 bs3) = some (bu4.map fun k => bj4 [k]) := by kernel_rfl
theorem bt4x1 : (bv4x1.map fun S => @chkB (sumsL true) Tryz.prog 8 27 [3, 8, 11, 12, 13, 14, 15, 16, 17, 18, 19, 20, 416, 422, 423, 433, 434, 435, 436, 448, 449, 450, 468, 469, 477, 478, 479] [6, 7, 26, 28, 29, 30, 31] [479] (@runF (sumsL true) Tryz.prog 8 1 (bj4 S))) = bv4x1.map fun S => some ((remN bu4 S).map fun k => bj4 (insN k S)) := by kernel_rfl
theorem bm4x1 : (bv4x1.all fun S => (remN bu4 S).all fun k => bv4x2.contains (insN k S)) = true := by kernel_rfl
theorem bt4x2 : (bv4x2.map fun S => @chkB (sumsL true) Tryz.prog 8 27 [3, 8, 11, 12, 13, 14, 15, 16, 17, 18, 19, 20, 416, 422, 423, 433, 434, 435, 436, 448, 449, 450, 468, 469, 477, 478, 479] [6, 7, 26, 28, 29, 30, 31] [479] (@runF (sumsL true) Tryz.prog 8 1 (bj4 S))) = bv4x2.map fun S => some ((remN bu4 S).map fun k => bj4 (insN k S)) := by kernel_rfl
theorem bm4x2 : (bv4x2.all fun S => (remN bu4 S).all fun k => bv4x3.contains (insN k S)) = true := by kernel_rfl
theorem bt4x3 : (bv4x3.map fun S => @chkB (sumsL true) Tryz.prog 8 27 [3, 8, 11, 12, 13, 14, 15, 16, 17, 18, 19, 20, 416, 422, 423, 433, 434, 435, 436, 448, 449, 450, 468, 469, 477, 478, 479] [6, 7, 26, 28, 29, 30, 31] [479] (@runF (sumsL true) Tryz.prog 8 1 (bj4 S))) = bv4x3.map fun S => some ((remN bu4 S).map fun k => bj4 (insN k S)) := by kernel_rfl
theorem bm4x3 : (bv4x3.all fun S => (remN bu4 S).all fun k => bv4x4.contains (insN k S)) = true := by kernel_rfl
theorem bt4x4 : (bv4x4.map fun S => @chkB (sumsL true) Tryz.prog 8 27 [3, 8, 11, 12, 13, 14, 15, 16, 17, 18, 19, 20, 416, 422, 423, 433, 434, 435, 436, 448, 449, 450, 468, 469, 477, 478, 479] [6, 7, 26, 28, 29, 30, 31] [479] (@runF (sumsL true) Tryz.prog 8 1 (bj4 S))) = bv4x4.map fun S => some ((remN bu4 S).map fun k => bj4 (insN k S)) := by kernel_rfl
theorem bm4x4 : (bv4x4.all fun S => (remN bu4 S).all fun k => bv4x5.contains (insN k S)) = true := by kernel_rfl
theorem bt4x5 : (bv4x5.map fun S => @chkB (sumsL true) Tryz.prog 8 27 [3, 8, 11, 12, 13, 14, 15, 16, 17, 18, 19, 20, 416, 422, 423, 433, 434, 435, 436, 448, 449, 450, 468, 469, 477, 478, 479] [6, 7, 26, 28, 29, 30, 31] [479] (@runF (sumsL true) Tryz.prog 8 1 (bj4 S))) = bv4x5.map fun S => some ((remN bu4 S).map fun k => bj4 (insN k S)) := by kernel_rfl
theorem bm4x5 : (bv4x5.all fun S => (remN bu4 S).all fun k => bv4x6.contains (insN k S)) = true := by kernel_rfl
theorem bt4x6 : (bv4x6.map fun S => chkW Tryz.prog [3, 8, 11, 12, 13, 14, 15, 16, 17, 18, 19, 20, 416, 422, 423, 433, 434, 435, 436, 448, 449, 450, 468, 469, 477, 478, 479] [6, 7, 26, 28, 29, 30, 31] [479] (@runF (sumsL true) Tryz.prog 8 28 (bj4 S))) = bv4x6.map fun _ => some (bj4 bu4) := by kernel_rfl
theorem bc4 : chk Tryz.prog [3, 8, 11, 12, 13, 14, 15, 16, 17, 18, 19, 20, 416, 422, 423, 433, 434, 468, 484, 485, 486, 497, 505, 506, 507] (@runF (sumsL true) Tryz.prog 8 2112 bs4) = some bs5 := by kernel_rfl
theorem bc5 : @chkB (sumsL true) Tryz.prog 8 27 [3, 8, 11, 12, 13, 14, 15, 16, 17, 18, 19, 20, 416, 422, 423, 433, 434, 468, 484, 485, 486, 497, 505, 506, 507] [6, 7, 26, 28, 29, 30, 31] [507] (@runF (sumsL true) Tryz.prog 8 1 bs5) = some (bu6.map fun k => bj6 [k]) := by kernel_rfl
theorem bt6x1 : (bv6x1.map fun S => @chkB (sumsL true) Tryz.prog 8 27 [3, 8, 11, 12, 13, 14, 15, 16, 17, 18, 19, 20, 416, 422, 423, 433, 434, 468, 484, 485, 486, 497, 505, 506, 507] [6, 7, 26, 28, 29, 30, 31] [507] (@runF (sumsL true) Tryz.prog 8 1 (bj6 S))) = bv6x1.map fun S => some ((remN bu6 S).map fun k => bj6 (insN k S)) := by kernel_rfl
theorem bm6x1 : (bv6x1.all fun S => (remN bu6 S).all fun k => bv6x2.contains (insN k S)) = true := by kernel_rfl
end Go.Proofs.YtbgbdoljnomakaaGreatDoor

/- The whole run out of its parts. -/
import Derived.Test.YtbgbdoljnomakaaGreatDoorLRunAA
import Derived.Test.YtbgbdoljnomakaaGreatDoorLRunAB
import Derived.Test.YtbgbdoljnomakaaGreatDoorLRunAC
import Derived.Test.YtbgbdoljnomakaaGreatDoorLRunAD
import Derived.Test.YtbgbdoljnomakaaGreatDoorLRunAE
import Derived.Test.YtbgbdoljnomakaaGreatDoorLRunAF
import Derived.Test.YtbgbdoljnomakaaGreatDoorLRunAG
import Derived.Test.YtbgbdoljnomakaaGreatDoorLRunAH
import Derived.Test.YtbgbdoljnomakaaGreatDoorLRunAI
import Derived.Test.YtbgbdoljnomakaaGreatDoorLRunAJ
import Derived.Test.YtbgbdoljnomakaaGreatDoorLRunAK
namespace Go.Proofs.YtbgbdoljnomakaaGreatDoor
open Go Go.AM
theorem be23 : @Go.AM.Ends (sumsL true) Tryz.prog 8 (fun v => v = .bool true) bs23 := @Go.AM.Ends.of_chkD (sumsL true) _ _ _ _ _ _ bc23 rfl
theorem be22 : @Go.AM.Ends (sumsL true) Tryz.prog 8 (fun v => v = .bool true) bs22 := @Go.AM.Ends.of_chk (sumsL true) _ _ _ _ _ _ _ bc22 be23
theorem be21 : @Go.AM.Ends (sumsL true) Tryz.prog 8 (fun v => v = .bool true) bs21 := @Go.AM.Ends.of_chk (sumsL true) _ _ _ _ _ _ _ bc21 be22
theorem be20 : @Go.AM.Ends (sumsL true) Tryz.prog 8 (fun v => v = .bool true) bs20 := @Go.AM.Ends.of_chk (sumsL true) _ _ _ _ _ _ _ bc20 be21
theorem be19 : @Go.AM.Ends (sumsL true) Tryz.prog 8 (fun v => v = .bool true) bs19 := @Go.AM.Ends.of_chk (sumsL true) _ _ _ _ _ _ _ bc19 be20
theorem be18 : @Go.AM.Ends (sumsL true) Tryz.prog 8 (fun v => v = .bool true) bs18 := @Go.AM.Ends.of_chk (sumsL true) _ _ _ _ _ _ _ bc18 be19
theorem be17 : @Go.AM.Ends (sumsL true) Tryz.prog 8 (fun v => v = .bool true) bs17 := @Go.AM.Ends.of_chk (sumsL true) _ _ _ _ _ _ _ bc17 be18
theorem be16 : @Go.AM.Ends (sumsL true) Tryz.prog 8 (fun v => v = .bool true) bs16 := @Go.AM.Ends.of_chk (sumsL true) _ _ _ _ _ _ _ bc16 be17
theorem be15 : @Go.AM.Ends (sumsL true) Tryz.prog 8 (fun v => v = .bool true) bs15 := @Go.AM.Ends.of_chk (sumsL true) _ _ _ _ _ _ _ bc15 be16
theorem be14 : @Go.AM.Ends (sumsL true) Tryz.prog 8 (fun v => v = .bool true) bs14 := @Go.AM.Ends.of_chk (sumsL true) _ _ _ _ _ _ _ bc14 be15
theorem be13 : @Go.AM.Ends (sumsL true) Tryz.prog 8 (fun v => v = .bool true) bs13 := @Go.AM.Ends.of_chk (sumsL true) _ _ _ _ _ _ _ bc13 be14
theorem be12 : @Go.AM.Ends (sumsL true) Tryz.prog 8 (fun v => v = .bool true) bs12 := @Go.AM.Ends.of_chk (sumsL true) _ _ _ _ _ _ _ bc12 be13
theorem be11 : @Go.AM.Ends (sumsL true) Tryz.prog 8 (fun v => v = .bool true) bs11 := @Go.AM.Ends.of_chk (sumsL true) _ _ _ _ _ _ _ bc11 be12
theorem be10 : @Go.AM.Ends (sumsL true) Tryz.prog 8 (fun v => v = .bool true) bs10 := @Go.AM.Ends.of_chk (sumsL true) _ _ _ _ _ _ _ bc10 be11
theorem be9 : @Go.AM.Ends (sumsL true) Tryz.prog 8 (fun v => v = .bool true) bs9 := @Go.AM.Ends.of_chk (sumsL true) _ _ _ _ _ _ _ bc9 be10
theorem be8 : @Go.AM.Ends (sumsL true) Tryz.prog 8 (fun v => v = .bool true) bs8 := @Go.AM.Ends.of_chk (sumsL true) _ _ _ _ _ _ _ bc8 be9
theorem bl8x6 : ∀ S ∈ bv8x6, @Go.AM.Ends (sumsL true) Tryz.prog 8 (fun v => v = .bool true) (bj8 S) := @join_last (sumsL true) _ _ _ _ _ 28 [3, 8, 11, 12, 13, 14, 15, 16, 17, 18, 19, 20, 416, 422, 423, 433, 434, 468, 484, 528, 529, 530, 531, 542, 550, 551, 552] [6, 7, 26, 28, 29, 30, 31] [552] _ bt8x6 be8
theorem bl8x5 : ∀ S ∈ bv8x5, @Go.AM.Ends (sumsL true) Tryz.prog 8 (fun v => v = .bool true) (bj8 S) := @join_level (sumsL true) _ _ _ _ _ 27 [3, 8, 11, 12, 13, 14, 15, 16, 17, 18, 19, 20, 416, 422, 423, 433, 434, 468, 484, 528, 529, 530, 531, 542, 550, 551, 552] [6, 7, 26, 28, 29, 30, 31] [552] _ _ bt8x5 bm8x5 bl8x6
theorem bl8x4 : ∀ S ∈ bv8x4, @Go.AM.Ends (sumsL true) Tryz.prog 8 (fun v => v = .bool true) (bj8 S) := @join_level (sumsL true) _ _ _ _ _ 27 [3, 8, 11, 12, 13, 14, 15, 16, 17, 18, 19, 20, 416, 422, 423, 433, 434, 468, 484, 528, 529, 530, 531, 542, 550, 551, 552] [6, 7, 26, 28, 29, 30, 31] [552] _ _ bt8x4 bm8x4 bl8x5
theorem bl8x3 : ∀ S ∈ bv8x3, @Go.AM.Ends (sumsL true) Tryz.prog 8 (fun v => v = .bool true) (bj8 S) := @join_level (sumsL true) _ _ _ _ _ 27 [3, 8, 11, 12, 13, 14, 15, 16, 17, 18, 19, 20, 416, 422, 423, 433, 434, 468, 484, 528, 529, 530, 531, 542, 550, 551, 552] [6, 7, 26, 28, 29, 30, 31] [552] _ _ bt8x3 bm8x3 bl8x4
theorem bl8x2 : ∀ S ∈ bv8x2, @Go.AM.Ends (sumsL true) Tryz.prog 8 (fun v => v = .bool true) (bj8 S) := @join_level (sumsL true) _ _ _ _ _ 27 [3, 8, 11, 12, 13, 14, 15, 16, 17, 18, 19, 20, 416, 422, 423, 433, 434, 468, 484, 528, 529, 530, 531, 542, 550, 551, 552] [6, 7, 26, 28, 29, 30, 31] [552] _ _ bt8x2 bm8x2 bl8x3
theorem bl8x1 : ∀ S ∈ bv8x1, @Go.AM.Ends (sumsL true) Tryz.prog 8 (fun v => v = .bool true) (bj8 S) := @join_level (sumsL true) _ _ _ _ _ 27 [3, 8, 11, 12, 13, 14, 15, 16, 17, 18, 19, 20, 416, 422, 423, 433, 434, 468, 484, 528, 529, 530, 531, 542, 550, 551, 552] [6, 7, 26, 28, 29, 30, 31] [552] _ _ bt8x1 bm8x1 bl8x2
theorem be7 : @Go.AM.Ends (sumsL true) Tryz.prog 8 (fun v => v = .bool true) bs7 := @Go.AM.Ends.of_chkB (sumsL true) _ _ _ _ _ 1 27 [3, 8, 11, 12, 13, 14, 15, 16, 17, 18, 19, 20, 416, 422, 423, 433, 434, 468, 484, 528, 529, 530, 531, 542, 550, 551, 552] [6, 7, 26, 28, 29, 30, 31] [552] bc7 (fun t ht => by
  obtain ⟨k, hk, rfl⟩ := List.mem_map.1 ht
  exact bl8x1 _ (List.mem_map.2 ⟨k, hk, rfl⟩))
theorem be6 : @Go.AM.Ends (sumsL true) Tryz.prog 8 (fun v => v = .bool true) bs6 := @Go.AM.Ends.of_chk (sumsL true) _ _ _ _ _ _ _ bc6 be7
theorem bl6x6 : ∀ S ∈ bv6x6, @Go.AM.Ends (sumsL true) Tryz.prog 8 (fun v => v = .bool true) (bj6 S) := @join_last (sumsL true) _ _ _ _ _ 28 [3, 8, 11, 12, 13, 14, 15, 16, 17, 18, 19, 20, 416, 422, 423, 433, 434, 468, 484, 485, 486, 497, 505, 506, 507] [6, 7, 26, 28, 29, 30, 31] [507] _ bt6x6 be6
theorem bl6x5 : ∀ S ∈ bv6x5, @Go.AM.Ends (sumsL true) Tryz.prog 8 (fun v => v = .bool true) (bj6 S) := @join_level (sumsL true) _ _ _ _ _ 27 [3, 8, 11, 12, 13, 14, 15, 16, 17, 18, 19, 20, 416, 422, 423, 433, 434, 468, 484, 485, 486, 497, 505, 506, 507] [6, 7, 26, 28, 29, 30, 31] [507] _ _ bt6x5 bm6x5 bl6x6
theorem bl6x4 : ∀ S ∈ bv6x4, @Go.AM.Ends (sumsL true) Tryz.prog 8 (fun v => v = .bool true) (bj6 S) := @join_level (sumsL true) _ _ _ _ _ 27 [3, 8, 11, 12, 13, 14, 15, 16, 17, 18, 19, 20, 416, 422, 423, 433, 434, 468, 484, 485, 486, 497, 505, 506, 507] [6, 7, 26, 28, 29, 30, 31] [507] _ _ bt6x4 bm6x4 bl6x5
theorem bl6x3 : ∀ S ∈ bv6x3, @Go.AM.Ends (sumsL true) Tryz.prog 8 (fun v => v = .bool true) (bj6 S) := @join_level (sumsL true) _ _ _ _ _ 27 [3, 8, 11, 12, 13, 14, 15, 16, 17, 18, 19, 20, 416, 422, 423, 433, 434, 468, 484, 485, 486, 497, 505, 506, 507] [6, 7, 26, 28, 29, 30, 31] [507] _ _ bt6x3 bm6x3 bl6x4
theorem bl6x2 : ∀ S ∈ bv6x2, @Go.AM.Ends (sumsL true) Tryz.prog 8 (fun v => v = .bool true) (bj6 S) := @join_level (sumsL true) _ _ _ _ _ 27 [3, 8, 11, 12, 13, 14, 15, 16, 17, 18, 19, 20, 416, 422, 423, 433, 434, 468, 484, 485, 486, 497, 505, 506, 507] [6, 7, 26, 28, 29, 30, 31] [507] _ _ bt6x2 bm6x2 bl6x3
theorem bl6x1 : ∀ S ∈ bv6x1, @Go.AM.Ends (sumsL true) Tryz.prog 8 (fun v => v = .bool true) (bj6 S) := @join_level (sumsL true) _ _ _ _ _ 27 [3, 8, 11, 12, 13, 14, 15, 16, 17, 18, 19, 20, 416, 422, 423, 433, 434, 468, 484, 485, 486, 497, 505, 506, 507] [6, 7, 26, 28, 29, 30, 31] [507] _ _ bt6x1 bm6x1 bl6x2
theorem be5 : @Go.AM.Ends (sumsL true) Tryz.prog 8 (fun v => v = .bool true) bs5 := @Go.AM.Ends.of_chkB (sumsL true) _ _ _ _ _ 1 27 [3, 8, 11, 12, 13, 14, 15, 16, 17, 18, 19, 20, 416, 422, 423, 433, 434, 468, 484, 485, 486, 497, 505, 506, 507] [6, 7, 26, 28, 29, 30, 31] [507] bc5 (fun t ht => by
  obtain ⟨k, hk, rfl⟩ := List.mem_map.1 ht
  exact bl6x1 _ (List.mem_map.2 ⟨k, hk, rfl⟩))
theorem be4 : @Go.AM.Ends (sumsL true) Tryz.prog 8 (fun v => v = .bool true) bs4 := @Go.AM.Ends.of_chk (sumsL true) _ _ _ _ _ _ _ bc4 be5
theorem bl4x6 : ∀ S ∈ bv4x6, @Go.AM.Ends (sumsL true) Tryz.prog 8 (fun v => v = .bool true) (bj4 S) := @join_last (sumsL true) _ _ _ _ _ 28 [3, 8, 11, 12, 13, 14, 15, 16, 17, 18, 19, 20, 416, 422, 423, 433, 434, 435, 436, 448, 449, 450, 468, 469, 477, 478, 479] [6, 7, 26, 28, 29, 30, 31] [479] _ bt4x6 be4
theorem bl4x5 : ∀ S ∈ bv4x5, @Go.AM.Ends (sumsL true) Tryz.prog 8 (fun v => v = .bool true) (bj4 S) := @join_level (sumsL true) _ _ _ _ _ 27 [3, 8, 11, 12, 13, 14, 15, 16, 17, 18, 19, 20, 416, 422, 423, 433, 434, 435, 436, 448, 449, 450, 468, 469, 477, 478, 479] [6, 7, 26, 28, 29, 30, 31] [479] _ _ bt4x5 bm4x5 bl4x6
theorem bl4x4 : ∀ S ∈ bv4x4, @Go.AM.Ends (sumsL true) Tryz.prog 8 (fun v => v = .bool true) (bj4 S) := @join_level (sumsL true) _ _ _ _ _ 27 [3, 8, 11, 12, 13, 14, 15, 16, 17, 18, 19, 20, 416, 422, 423, 433, 434, 435, 436, 448, 449, 450, 468, 469, 477, 478, 479] [6, 7, 26, 28, 29, 30, 31] [479] _ _ bt4x4 bm4x4 bl4x5
theorem bl4x3 : ∀ S ∈ bv4x3, @Go.AM.Ends (sumsL true) Tryz.prog 8 (fun v => v = .bool true) (bj4 S) := @join_level (sumsL true) _ _ _ _ _ 27 [3, 8, 11, 12, 13, 14, 15, 16, 17, 18, 19, 20, 416, 422, 423, 433, 434, 435, 436, 448, 449, 450, 468, 469, 477, 478, 479] [6, 7, 26, 28, 29, 30, 31] [479] _ _ bt4x3 bm4x3 bl4x4
theorem bl4x2 : ∀ S ∈ bv4x2, @Go.AM.Ends (sumsL true) Tryz.prog 8 (fun v => v = .bool true) (bj4 S) := @join_level (sumsL true) _ _ _ _ _ 27 [3, 8, 11, 12, 13, 14, 15, 16, 17, 18, 19, 20, 416, 422, 423, 433, 434, 435, 436, 448, 449, 450, 468, 469, 477, 478, 479] [6, 7, 26, 28, 29, 30, 31] [479] _ _ bt4x2 bm4x2 bl4x3
theorem bl4x1 : ∀ S ∈ bv4x1, @Go.AM.Ends (sumsL true) Tryz.prog 8 (fun v => v = .bool true) (bj4 S) := @join_level (sumsL true) _ _ _ _ _ 27 [3, 8, 11, 12, 13, 14, 15, 16, 17, 18, 19, 20, 416, 422, 423, 433, 434, 435, 436, 448, 449, 450, 468, 469, 477, 478, 479] [6, 7, 26, 28, 29, 30, 31] [479] _ _ bt4x1 bm4x1 bl4x2
theorem be3 : @Go.AM.Ends (sumsL true) Tryz.prog 8 (fun v => v = .bool true) bs3 := @Go.AM.Ends.of_chkB (sumsL true) _ _ _ _ _ 1 27 [3, 8, 11, 12, 13, 14, 15, 16, 17, 18, 19, 20, 416, 422, 423, 433, 434, 435, 436, 448, 449, 450, 468, 469, 477, 478, 479] [6, 7, 26, 28, 29, 30, 31] [479] bc3 (fun t ht => by
  obtain ⟨k, hk, rfl⟩ := List.mem_map.1 ht
  exact bl4x1 _ (List.mem_map.2 ⟨k, hk, rfl⟩))
theorem be2 : @Go.AM.Ends (sumsL true) Tryz.prog 8 (fun v => v = .bool true) bs2 := @Go.AM.Ends.of_chk (sumsL true) _ _ _ _ _ _ _ bc2 be3
theorem be1 : @Go.AM.Ends (sumsL true) Tryz.prog 8 (fun v => v = .bool true) bs1 := @Go.AM.Ends.of_chk (sumsL true) _ _ _ _ _ _ _ bc1 be2
theorem be0 : @Go.AM.Ends (sumsL true) Tryz.prog 8 (fun v => v = .bool true) bs0 := @Go.AM.Ends.of_chk (sumsL true) _ _ _ _ _ _ _ bc0 be1
end Go.Proofs.YtbgbdoljnomakaaGreatDoor

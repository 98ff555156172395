/- The whole run out of its parts. -/
import Derived.Test.YtbgbdoljnomakaaGreatDoorRunAA
import Derived.Test.YtbgbdoljnomakaaGreatDoorRunAB
import Derived.Test.YtbgbdoljnomakaaGreatDoorRunAC
import Derived.Test.YtbgbdoljnomakaaGreatDoorRunAD
import Derived.Test.YtbgbdoljnomakaaGreatDoorRunAE
import Derived.Test.YtbgbdoljnomakaaGreatDoorRunAF
import Derived.Test.YtbgbdoljnomakaaGreatDoorRunAG
import Derived.Test.YtbgbdoljnomakaaGreatDoorRunAH
import Derived.Test.YtbgbdoljnomakaaGreatDoorRunAI
import Derived.Test.YtbgbdoljnomakaaGreatDoorRunAJ
import Derived.Test.YtbgbdoljnomakaaGreatDoorRunAK
namespace Go.Proofs.YtbgbdoljnomakaaGreatDoor
open Go Go.AM
theorem ae23 : @Go.AM.Ends sums Tryz.prog 8 (fun v => v = .bool true) as23 := @Go.AM.Ends.of_chkD sums _ _ _ _ _ _ ac23 rfl
theorem ae22 : @Go.AM.Ends sums Tryz.prog 8 (fun v => v = .bool true) as22 := @Go.AM.Ends.of_chk sums _ _ _ _ _ _ _ ac22 ae23
theorem ae21 : @Go.AM.Ends sums Tryz.prog 8 (fun v => v = .bool true) as21 := @Go.AM.Ends.of_chk sums _ _ _ _ _ _ _ ac21 ae22
theorem ae20 : @Go.AM.Ends sums Tryz.prog 8 (fun v => v = .bool true) as20 := @Go.AM.Ends.of_chk sums _ _ _ _ _ _ _ ac20 ae21
theorem ae19 : @Go.AM.Ends sums Tryz.prog 8 (fun v => v = .bool true) as19 := @Go.AM.Ends.of_chk sums _ _ _ _ _ _ _ ac19 ae20
theorem ae18 : @Go.AM.Ends sums Tryz.prog 8 (fun v => v = .bool true) as18 := @Go.AM.Ends.of_chk sums _ _ _ _ _ _ _ ac18 ae19
theorem ae17 : @Go.AM.Ends sums Tryz.prog 8 (fun v => v = .bool true) as17 := @Go.AM.Ends.of_chk sums _ _ _ _ _ _ _ ac17 ae18
theorem ae16 : @Go.AM.Ends sums Tryz.prog 8 (fun v => v = .bool true) as16 := @Go.AM.Ends.of_chk sums _ _ _ _ _ _ _ ac16 ae17
theorem ae15 : @Go.AM.Ends sums Tryz.prog 8 (fun v => v = .bool true) as15 := @Go.AM.Ends.of_chk sums _ _ _ _ _ _ _ ac15 ae16
theorem ae14 : @Go.AM.Ends sums Tryz.prog 8 (fun v => v = .bool true) as14 := @Go.AM.Ends.of_chk sums _ _ _ _ _ _ _ ac14 ae15
theorem ae13 : @Go.AM.Ends sums Tryz.prog 8 (fun v => v = .bool true) as13 := @Go.AM.Ends.of_chk sums _ _ _ _ _ _ _ ac13 ae14
theorem ae12 : @Go.AM.Ends sums Tryz.prog 8 (fun v => v = .bool true) as12 := @Go.AM.Ends.of_chk sums _ _ _ _ _ _ _ ac12 ae13
theorem ae11 : @Go.AM.Ends sums Tryz.prog 8 (fun v => v = .bool true) as11 := @Go.AM.Ends.of_chk sums _ _ _ _ _ _ _ ac11 ae12
theorem ae10 : @Go.AM.Ends sums Tryz.prog 8 (fun v => v = .bool true) as10 := @Go.AM.Ends.of_chk sums _ _ _ _ _ _ _ ac10 ae11
theorem ae9 : @Go.AM.Ends sums Tryz.prog 8 (fun v => v = .bool true) as9 := @Go.AM.Ends.of_chk sums _ _ _ _ _ _ _ ac9 ae10
theorem ae8 : @Go.AM.Ends sums Tryz.prog 8 (fun v => v = .bool true) as8 := @Go.AM.Ends.of_chk sums _ _ _ _ _ _ _ ac8 ae9
theorem al8x6 : ∀ S ∈ av8x6, @Go.AM.Ends sums Tryz.prog 8 (fun v => v = .bool true) (aj8 S) := @join_last sums _ _ _ _ _ 28 [3, 10, 11, 12, 13, 14, 15, 16, 17, 18, 19, 415, 421, 422, 432, 433, 467, 483, 527, 528, 529, 530, 541, 549, 550, 551] [6, 7, 26, 28, 29, 30, 31] [551] _ at8x6 ae8
theorem al8x5 : ∀ S ∈ av8x5, @Go.AM.Ends sums Tryz.prog 8 (fun v => v = .bool true) (aj8 S) := @join_level sums _ _ _ _ _ 27 [3, 10, 11, 12, 13, 14, 15, 16, 17, 18, 19, 415, 421, 422, 432, 433, 467, 483, 527, 528, 529, 530, 541, 549, 550, 551] [6, 7, 26, 28, 29, 30, 31] [551] _ _ at8x5 am8x5 al8x6
theorem al8x4 : ∀ S ∈ av8x4, @Go.AM.Ends sums Tryz.prog 8 (fun v => v = .bool true) (aj8 S) := @join_level sums _ _ _ _ _ 27 [3, 10, 11, 12, 13, 14, 15, 16, 17, 18, 19, 415, 421, 422, 432, 433, 467, 483, 527, 528, 529, 530, 541, 549, 550, 551] [6, 7, 26, 28, 29, 30, 31] [551] _ _ at8x4 am8x4 al8x5
theorem al8x3 : ∀ S ∈ av8x3, @Go.AM.Ends sums Tryz.prog 8 (fun v => v = .bool true) (aj8 S) := @join_level sums _ _ _ _ _ 27 [3, 10, 11, 12, 13, 14, 15, 16, 17, 18, 19, 415, 421, 422, 432, 433, 467, 483, 527, 528, 529, 530, 541, 549, 550, 551] [6, 7, 26, 28, 29, 30, 31] [551] _ _ at8x3 am8x3 al8x4
theorem al8x2 : ∀ S ∈ av8x2, @Go.AM.Ends sums Tryz.prog 8 (fun v => v = .bool true) (aj8 S) := @join_level sums _ _ _ _ _ 27 [3, 10, 11, 12, 13, 14, 15, 16, 17, 18, 19, 415, 421, 422, 432, 433, 467, 483, 527, 528, 529, 530, 541, 549, 550, 551] [6, 7, 26, 28, 29, 30, 31] [551] _ _ at8x2 am8x2 al8x3
theorem al8x1 : ∀ S ∈ av8x1, @Go.AM.Ends sums Tryz.prog 8 (fun v => v = .bool true) (aj8 S) := @join_level sums _ _ _ _ _ 27 [3, 10, 11, 12, 13, 14, 15, 16, 17, 18, 19, 415, 421, 422, 432, 433, 467, 483, 527, 528, 529, 530, 541, 549, 550, 551] [6, 7, 26, 28, 29, 30, 31] [551] _ _ at8x1 am8x1 al8x2
theorem ae7 : @Go.AM.Ends sums Tryz.prog 8 (fun v => v = .bool true) as7 := @Go.AM.Ends.of_chkB sums _ _ _ _ _ 1 27 [3, 10, 11, 12, 13, 14, 15, 16, 17, 18, 19, 415, 421, 422, 432, 433, 467, 483, 527, 528, 529, 530, 541, 549, 550, 551] [6, 7, 26, 28, 29, 30, 31] [551] ac7 (fun t ht => by
  obtain ⟨k, hk, rfl⟩ := List.mem_map.1 ht
  exact al8x1 _ (List.mem_map.2 ⟨k, hk, rfl⟩))
theorem ae6 : @Go.AM.Ends sums Tryz.prog 8 (fun v => v = .bool true) as6 := @Go.AM.Ends.of_chk sums _ _ _ _ _ _ _ ac6 ae7
theorem al6x6 : ∀ S ∈ av6x6, @Go.AM.Ends sums Tryz.prog 8 (fun v => v = .bool true) (aj6 S) := @join_last sums _ _ _ _ _ 28 [3, 10, 11, 12, 13, 14, 15, 16, 17, 18, 19, 415, 421, 422, 432, 433, 467, 483, 484, 485, 496, 504, 505, 506] [6, 7, 26, 28, 29, 30, 31] [506] _ at6x6 ae6
theorem al6x5 : ∀ S ∈ av6x5, @Go.AM.Ends sums Tryz.prog 8 (fun v => v = .bool true) (aj6 S) := @join_level sums _ _ _ _ _ 27 [3, 10, 11, 12, 13, 14, 15, 16, 17, 18, 19, 415, 421, 422, 432, 433, 467, 483, 484, 485, 496, 504, 505, 506] [6, 7, 26, 28, 29, 30, 31] [506] _ _ at6x5 am6x5 al6x6
theorem al6x4 : ∀ S ∈ av6x4, @Go.AM.Ends sums Tryz.prog 8 (fun v => v = .bool true) (aj6 S) := @join_level sums _ _ _ _ _ 27 [3, 10, 11, 12, 13, 14, 15, 16, 17, 18, 19, 415, 421, 422, 432, 433, 467, 483, 484, 485, 496, 504, 505, 506] [6, 7, 26, 28, 29, 30, 31] [506] _ _ at6x4 am6x4 al6x5
theorem al6x3 : ∀ S ∈ av6x3, @Go.AM.Ends sums Tryz.prog 8 (fun v => v = .bool true) (aj6 S) := @join_level sums _ _ _ _ _ 27 [3, 10, 11, 12, 13, 14, 15, 16, 17, 18, 19, 415, 421, 422, 432, 433, 467, 483, 484, 485, 496, 504, 505, 506] [6, 7, 26, 28, 29, 30, 31] [506] _ _ at6x3 am6x3 al6x4
theorem al6x2 : ∀ S ∈ av6x2, @Go.AM.Ends sums Tryz.prog 8 (fun v => v = .bool true) (aj6 S) := @join_level sums _ _ _ _ _ 27 [3, 10, 11, 12, 13, 14, 15, 16, 17, 18, 19, 415, 421, 422, 432, 433, 467, 483, 484, 485, 496, 504, 505, 506] [6, 7, 26, 28, 29, 30, 31] [506] _ _ at6x2 am6x2 al6x3
theorem al6x1 : ∀ S ∈ av6x1, @Go.AM.Ends sums Tryz.prog 8 (fun v => v = .bool true) (aj6 S) := @join_level sums _ _ _ _ _ 27 [3, 10, 11, 12, 13, 14, 15, 16, 17, 18, 19, 415, 421, 422, 432, 433, 467, 483, 484, 485, 496, 504, 505, 506] [6, 7, 26, 28, 29, 30, 31] [506] _ _ at6x1 am6x1 al6x2
theorem ae5 : @Go.AM.Ends sums Tryz.prog 8 (fun v => v = .bool true) as5 := @Go.AM.Ends.of_chkB sums _ _ _ _ _ 1 27 [3, 10, 11, 12, 13, 14, 15, 16, 17, 18, 19, 415, 421, 422, 432, 433, 467, 483, 484, 485, 496, 504, 505, 506] [6, 7, 26, 28, 29, 30, 31] [506] ac5 (fun t ht => by
  obtain ⟨k, hk, rfl⟩ := List.mem_map.1 ht
  exact al6x1 _ (List.mem_map.2 ⟨k, hk, rfl⟩))
theorem ae4 : @Go.AM.Ends sums Tryz.prog 8 (fun v => v = .bool true) as4 := @Go.AM.Ends.of_chk sums _ _ _ _ _ _ _ ac4 ae5
theorem al4x6 : ∀ S ∈ av4x6, @Go.AM.Ends sums Tryz.prog 8 (fun v => v = .bool true) (aj4 S) := @join_last sums _ _ _ _ _ 28 [3, 10, 11, 12, 13, 14, 15, 16, 17, 18, 19, 415, 421, 422, 432, 433, 434, 435, 447, 448, 449, 467, 468, 476, 477, 478] [6, 7, 26, 28, 29, 30, 31] [478] _ at4x6 ae4
theorem al4x5 : ∀ S ∈ av4x5, @Go.AM.Ends sums Tryz.prog 8 (fun v => v = .bool true) (aj4 S) := @join_level sums _ _ _ _ _ 27 [3, 10, 11, 12, 13, 14, 15, 16, 17, 18, 19, 415, 421, 422, 432, 433, 434, 435, 447, 448, 449, 467, 468, 476, 477, 478] [6, 7, 26, 28, 29, 30, 31] [478] _ _ at4x5 am4x5 al4x6
theorem al4x4 : ∀ S ∈ av4x4, @Go.AM.Ends sums Tryz.prog 8 (fun v => v = .bool true) (aj4 S) := @join_level sums _ _ _ _ _ 27 [3, 10, 11, 12, 13, 14, 15, 16, 17, 18, 19, 415, 421, 422, 432, 433, 434, 435, 447, 448, 449, 467, 468, 476, 477, 478] [6, 7, 26, 28, 29, 30, 31] [478] _ _ at4x4 am4x4 al4x5
theorem al4x3 : ∀ S ∈ av4x3, @Go.AM.Ends sums Tryz.prog 8 (fun v => v = .bool true) (aj4 S) := @join_level sums _ _ _ _ _ 27 [3, 10, 11, 12, 13, 14, 15, 16, 17, 18, 19, 415, 421, 422, 432, 433, 434, 435, 447, 448, 449, 467, 468, 476, 477, 478] [6, 7, 26, 28, 29, 30, 31] [478] _ _ at4x3 am4x3 al4x4
theorem al4x2 : ∀ S ∈ av4x2, @Go.AM.Ends sums Tryz.prog 8 (fun v => v = .bool true) (aj4 S) := @join_level sums _ _ _ _ _ 27 [3, 10, 11, 12, 13, 14, 15, 16, 17, 18, 19, 415, 421, 422, 432, 433, 434, 435, 447, 448, 449, 467, 468, 476, 477, 478] [6, 7, 26, 28, 29, 30, 31] [478] _ _ at4x2 am4x2 al4x3
theorem al4x1 : ∀ S ∈ av4x1, @Go.AM.Ends sums Tryz.prog 8 (fun v => v = .bool true) (aj4 S) := @join_level sums _ _ _ _ _ 27 [3, 10, 11, 12, 13, 14, 15, 16, 17, 18, 19, 415, 421, 422, 432, 433, 434, 435, 447, 448, 449, 467, 468, 476, 477, 478] [6, 7, 26, 28, 29, 30, 31] [478] _ _ at4x1 am4x1 al4x2
theorem ae3 : @Go.AM.Ends sums Tryz.prog 8 (fun v => v = .bool true) as3 := @Go.AM.Ends.of_chkB sums _ _ _ _ _ 1 27 [3, 10, 11, 12, 13, 14, 15, 16, 17, 18, 19, 415, 421, 422, 432, 433, 434, 435, 447, 448, 449, 467, 468, 476, 477, 478] [6, 7, 26, 28, 29, 30, 31] [478] ac3 (fun t ht => by
  obtain ⟨k, hk, rfl⟩ := List.mem_map.1 ht
  exact al4x1 _ (List.mem_map.2 ⟨k, hk, rfl⟩))
theorem ae2 : @Go.AM.Ends sums Tryz.prog 8 (fun v => v = .bool true) as2 := @Go.AM.Ends.of_chk sums _ _ _ _ _ _ _ ac2 ae3
theorem ae1 : @Go.AM.Ends sums Tryz.prog 8 (fun v => v = .bool true) as1 := @Go.AM.Ends.of_chk sums _ _ _ _ _ _ _ ac1 ae2
theorem ae0 : @Go.AM.Ends sums Tryz.prog 8 (fun v => v = .bool true) as0 := @Go.AM.Ends.of_chk sums _ _ _ _ _ _ _ ac0 ae1
end Go.Proofs.YtbgbdoljnomakaaGreatDoor

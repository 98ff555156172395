import Derived.Test.YtbgbdoljnomakaaGreatDoorReachA
/- The row's cells 'inPlace', 'unfollowed', 'recurses' and 'named'. -/
namespace Go.Proofs.YtbgbdoljnomakaaGreatDoor
open Go Go.AM
theorem unfollowed3 : Tryz.prog.unfollowed 3 = true := AM.unfollowed_of reach_eq (by kernel_rfl)
theorem fact11 : (Rows.bundleNilRow.unfollowed == Tryz.prog.unfollowed 3) = true := by rw [unfollowed3]; rfl
theorem fact12 : (Rows.bundleNilRow.recurses == Tryz.prog.recurses 3) = true := by rw [AM.recurses_of unfollowed3]; rfl
theorem globsA : reachA.flatMap (globsOf Tryz.prog) = [0, 1, 0, 1, 2, 4, 5, 3, 3, 3] := by kernel_rfl
theorem readsA : reachA.filterMap (readOf Tryz.prog) = ["internal/bytealg.MaxLen"] := by kernel_rfl
theorem placesA : reachA.filterMap (bodyless Tryz.prog) = ["internal/bytealg.IndexByteString", "internal/bytealg.IndexString", "internal/bytealg.CountString", "internal/abi.NoEscape", "internal/bytealg.MakeNoZero"] := by kernel_rfl
theorem globsB : reachB.flatMap (globsOf Tryz.prog) = [] := by kernel_rfl
theorem readsB : reachB.filterMap (readOf Tryz.prog) = [] := by kernel_rfl
theorem placesB : reachB.filterMap (bodyless Tryz.prog) = [] := by kernel_rfl
theorem globsC : reachC.flatMap (globsOf Tryz.prog) = [6, 7] := by kernel_rfl
theorem readsC : reachC.filterMap (readOf Tryz.prog) = [] := by kernel_rfl
theorem placesC : reachC.filterMap (bodyless Tryz.prog) = [] := by kernel_rfl
theorem globsD : reachD.flatMap (globsOf Tryz.prog) = [] := by kernel_rfl
theorem readsD : reachD.filterMap (readOf Tryz.prog) = [] := by kernel_rfl
theorem placesD : reachD.filterMap (bodyless Tryz.prog) = [] := by kernel_rfl
theorem globsE : reachE.flatMap (globsOf Tryz.prog) = [] := by kernel_rfl
theorem readsE : reachE.filterMap (readOf Tryz.prog) = [] := by kernel_rfl
theorem placesE : reachE.filterMap (bodyless Tryz.prog) = [] := by kernel_rfl
theorem named3 : Tryz.prog.varsNamed 3 = namesOf Tryz.prog ([0, 1, 0, 1, 2, 4, 5, 3, 3, 3] ++ ([] ++ ([6, 7] ++ ([] ++ ([]))))) (["internal/bytealg.MaxLen"] ++ ([] ++ ([] ++ ([] ++ ([]))))) :=
  varsNamed_of reach_eq (flatMap_two globsA (flatMap_two globsB (flatMap_two globsC (flatMap_two globsD globsE)))) (filterMap_two readsA (filterMap_two readsB (filterMap_two readsC (filterMap_two readsD readsE))))
theorem fact13 : (Rows.bundleNilRow.named == Tryz.prog.varsNamed 3) = true := by rw [named3]; kernel_rfl
theorem inPlace3 : Tryz.prog.inPlace 3 = Rows.bundleNilRow.inPlace := inPlace_of reach_eq (filterMap_two placesA (filterMap_two placesB (filterMap_two placesC (filterMap_two placesD placesE))))
theorem fact10 : (Rows.bundleNilRow.inPlace == Tryz.prog.inPlace 3) = true := by rw [inPlace3]; kernel_rfl
end Go.Proofs.YtbgbdoljnomakaaGreatDoor

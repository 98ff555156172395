/- The row's cells 'inPlace', 'unfollowed', 'recurses' and 'named'. -/
import Derived.Test.YtlaapfclbfkbhaaGreatDoorReachA
namespace Go.Proofs.YtlaapfclbfkbhaaGreatDoor
open Go Go.AM
theorem unfollowed3 : Tryz.prog.unfollowed 3 = true := AM.unfollowed_of reach_eq (by kernel_rfl)
theorem fact11 : (Rows.serverNilRow.unfollowed == Tryz.prog.unfollowed 3) = true := by rw [unfollowed3]; rfl
theorem fact12 : (Rows.serverNilRow.recurses == Tryz.prog.recurses 3) = true := by rw [AM.recurses_of unfollowed3]; rfl
theorem globsA : reachA.flatMap (globsOf Tryz.prog) = [0, 1, 0, 1, 3, 7, 8, 2, 2, 2] := by kernel_rfl
theorem globsB : reachB.flatMap (globsOf Tryz.prog) = [6, 6, 6, 6, 9] := by kernel_rfl
theorem globsC : reachC.flatMap (globsOf Tryz.prog) = [4, 5] := by kernel_rfl
theorem globsD : reachD.flatMap (globsOf Tryz.prog) = [] := by kernel_rfl
theorem readsA : reachA.filterMap (readOf Tryz.prog) = ["internal/bytealg.MaxLen"] := by kernel_rfl
theorem readsB : reachB.filterMap (readOf Tryz.prog) = [] := by kernel_rfl
theorem readsC : reachC.filterMap (readOf Tryz.prog) = [] := by kernel_rfl
theorem readsD : reachD.filterMap (readOf Tryz.prog) = [] := by kernel_rfl
theorem named3 : Tryz.prog.varsNamed 3 = namesOf Tryz.prog ([0, 1, 0, 1, 3, 7, 8, 2, 2, 2] ++ ([6, 6, 6, 6, 9] ++ ([4, 5] ++ []))) (["internal/bytealg.MaxLen"] ++ ([] ++ ([] ++ []))) :=
  varsNamed_of reach_eq (flatMap_two globsA (flatMap_two globsB (flatMap_two globsC globsD))) (filterMap_two readsA (filterMap_two readsB (filterMap_two readsC readsD)))
theorem fact13 : (Rows.serverNilRow.named == Tryz.prog.varsNamed 3) = true := by rw [named3]; kernel_rfl
theorem placesA : reachA.filterMap (bodyless Tryz.prog) = ["internal/bytealg.IndexByteString", "internal/bytealg.IndexString", "internal/abi.NoEscape", "slices.overlaps[calque/api.Field]", "internal/bytealg.MakeNoZero"] := by kernel_rfl
theorem placesB : reachB.filterMap (bodyless Tryz.prog) = ["internal/bytealg.abigen_runtime_cmpstring", "internal/bytealg.CountString"] := by kernel_rfl
theorem placesC : reachC.filterMap (bodyless Tryz.prog) = ["maps.clone"] := by kernel_rfl
theorem placesD : reachD.filterMap (bodyless Tryz.prog) = ["slices.overlaps[string]"] := by kernel_rfl
theorem inPlace3 : Tryz.prog.inPlace 3 = Rows.serverNilRow.inPlace := inPlace_of reach_eq (filterMap_two placesA (filterMap_two placesB (filterMap_two placesC placesD)))
theorem fact10 : (Rows.serverNilRow.inPlace == Tryz.prog.inPlace 3) = true := by rw [inPlace3]; kernel_rfl
end Go.Proofs.YtlaapfclbfkbhaaGreatDoor

import Derived.Test.YtbgbdoljnomakaaGreatDoorLaw
/- The row 'BundleNil'. -/
namespace Go.Proofs.YtbgbdoljnomakaaGreatDoor
open Go Go.ChangeShapes Go.WideShapes Go.ChangeAt Go.RowKit

theorem facts : joinedFacts Tryz.prog 3 Tryz.f3 Rows.bundleNilSpec Rows.bundleNilRow = true :=
  AM.joinedFacts_of fact1 laidOut fact3 fact4 fact5 (by kernel_rfl) fact7 (by kernel_rfl) fact9 fact10 fact11 fact12 fact13 fact14 fact15 (by kernel_rfl) fact17 fact18 fact19 fact20 fact21 fact22 fact23

theorem row_holds : Rows.BundleNilSaid :=
  OpenClaim.holds_of_wide 3 Tryz.f3 rfl rfl rfl rfl rfl rfl rfl ⟨rfl, rfl, rfl, rfl, rfl⟩ rfl rfl rfl rfl rfl fact24 Tryz.func3 facts
    (of_decide_eq_true (by kernel_rfl)) (by unfold Func.isWrapper; rw [if_neg (of_decide_eq_false (by kernel_rfl))]; exact ⟨rfl, rfl⟩)
    (fun os started H enc _ => lifted os started H enc)
end Go.Proofs.YtbgbdoljnomakaaGreatDoor

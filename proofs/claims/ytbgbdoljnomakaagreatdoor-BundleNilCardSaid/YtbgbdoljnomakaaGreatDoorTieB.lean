import Derived.Test.YtbgbdoljnomakaaGreatDoorRows
import Derived.LaidByTextLater
import Derived.KernelRfl
import Derived.Test.YtbgbdoljnomakaaGreatDoorAmKit
/- The run of the program's own initialisers: it ends; what the listed variables read as behind it; through which places. -/
namespace Go.Proofs.YtbgbdoljnomakaaGreatDoor
open Go
noncomputable def tiedList : List (String × DataW Unit) := [("unicode/utf8.acceptRanges", Rows.laid_unicode_utf8_acceptRanges), ("internal/strconv.uint64pow10", Rows.laid_internal_strconv_uint64pow10), ("math/bits.deBruijn32tab", Rows.laid_math_bits_deBruijn32tab), ("math/bits.deBruijn64tab", Rows.laid_math_bits_deBruijn64tab), ("strconv.ErrSyntax", Rows.laid_strconv_ErrSyntax), ("strconv.ErrRange", Rows.laid_strconv_ErrRange)]
noncomputable def tiedRows : List (Nat × Nat) := [(1, 32), (2, 20), (4, 32), (5, 64), (6, 1), (14, 1), (7, 1), (13, 1)]
theorem varsEnd : ∀ os tape, varsDone Tryz.prog 100 689 os tape = true := fun _ _ => by kernel_rfl
theorem varsPlaces : ∀ os tape, (DataW.laidRun Tryz.prog (varsWorld Tryz.prog 100 689 os tape).memory 8 (tiedList.map (·.1))).map (·.2) = some (AM.rowsAt tiedRows) := fun _ _ => by kernel_rfl
theorem varsRows : ∀ os tape, laidRowsB Tryz.prog (varsWorld Tryz.prog 100 689 os tape).memory (AM.rowsAt tiedRows) = true := fun _ _ => by kernel_rfl
theorem varsData : ∀ os tape, (DataW.laidRun Tryz.prog (varsWorld Tryz.prog 100 689 os tape).memory 8 (tiedList.map (·.1))).map (·.1) = some tiedList := fun _ _ => by kernel_rfl
end Go.Proofs.YtbgbdoljnomakaaGreatDoor

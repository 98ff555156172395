import Derived.Test.YtbgbdoljnomakaaGreatDoorRow
import Derived.Test.YtbgbdoljnomakaaGreatDoorCardA
/- The tied card of 'BundleNil': whatever the event, the law returns true. -/
namespace Go.Proofs.YtbgbdoljnomakaaGreatDoor
open Go

theorem row_tie : Rows.bundleNilRow.laidByTextAt .later Tryz.pinned [.pinned, .data, .data, .data, .data, .sentinel, .sentinel] true :=
  OpenClaim.laidByTextAt_pinned rfl rfl tie rfl rfl rfl rfl (fun y hy _e => by
    simp only [Rows.bundleNilRow, List.zip_cons_cons, List.zip_nil_right, List.mem_cons, List.mem_nil_iff, or_false] at hy
    rcases hy with rfl | rfl | rfl | rfl | rfl | rfl | rfl
    · exact ⟨pinFirst, datum1⟩
    · cases _e
    · cases _e
    · cases _e
    · cases _e
    · cases _e
    · cases _e) fits1

theorem bundleNil_card_holds : Rows.BundleNilCardSaid :=
  Claim7.holds_tied_plain_at .later [] [.pinned, .data, .data, .data, .data, .sentinel, .sentinel] true (true, "ee7f0c8761e0bc1d678bb65f1d7ad23decd6107981a8756267086a98e58cda75") true
    row_holds (fun _ h => by cases h) card1 (fun _ h => by cases h) row_tie rfl ⟨rfl, rfl⟩ card2 rfl
    (fun f fn hf hfn => by
      obtain rfl : f = 3 := Option.some.inj (fact24.symm.trans hf) |>.symm
      obtain rfl : fn = Tryz.f3 := (Option.some.inj (Tryz.func3.symm.trans hfn)).symm
      exact ⟨card3, fun j t ht => by
        rw [Tryz.params3] at ht
        have h3 : t = 24 := by
          rcases j with _ | j
          · simpa using ht.symm
          · simp at ht
        subst h3
        exact card5⟩)
    card4
#print axioms bundleNil_card_holds
end Go.Proofs.YtbgbdoljnomakaaGreatDoor

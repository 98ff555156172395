/- The tied card of 'ServerNil': whatever the event, the law returns true. -/
import Derived.Test.YtlaapfclbfkbhaaGreatDoorRow
import Derived.Test.YtlaapfclbfkbhaaGreatDoorCardA
namespace Go.Proofs.YtlaapfclbfkbhaaGreatDoor
open Go

theorem row_tie : Rows.serverNilRow.laidByTextAt .later Tryz.pinned [.pinned, .data, .data, .data, .data, .data, .listed, .sentinel, .sentinel] true :=
  OpenClaim.laidByTextAt_pinned rfl rfl tie rfl rfl rfl rfl (fun y hy _e => by
    simp only [Rows.serverNilRow, List.zip_cons_cons, List.zip_nil_right, List.mem_cons, List.mem_nil_iff, or_false] at hy
    rcases hy with rfl | rfl | rfl | rfl | rfl | rfl | rfl | rfl | rfl
    · exact ⟨pinFirst, datum1⟩
    · cases _e
    · cases _e
    · cases _e
    · cases _e
    · cases _e
    · cases _e
    · cases _e
    · cases _e) fits1

theorem serverNil_card_holds : Rows.ServerNilCardSaid :=
  Claim7.holds_tied_plain_at .later [] [.pinned, .data, .data, .data, .data, .data, .listed, .sentinel, .sentinel] true (true, "9a02695d7680a282e3835438e4cb9db35318abfd1ff86466c35eb92b0c08f748") true
    row_holds (fun _ h => by cases h) card1 (fun _ h => by cases h) row_tie rfl ⟨rfl, rfl⟩ card2 rfl
    (fun f fn hf hfn => by
      obtain rfl : f = 3 := Option.some.inj (fact24.symm.trans hf) |>.symm
      obtain rfl : fn = Tryz.f3 := (Option.some.inj (Tryz.func3.symm.trans hfn)).symm
      exact ⟨card3, fun j t ht => by
        rw [Tryz.params3] at ht
        have h3 : t = 23 := by
          rcases j with _ | j
          · simpa using ht.symm
          · simp at ht
        subst h3
        exact card5⟩)
    card4
#print axioms serverNil_card_holds
end Go.Proofs.YtlaapfclbfkbhaaGreatDoor

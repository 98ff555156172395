/- The law 'ServerNil': the row and its tied card. -/
import Derived.Test.YtlaapfclbfkbhaaGreatDoorCards
import Derived.Test.YtlaapfclbfkbhaaGreatDoorTieA
import Derived.Test.YtlaapfclbfkbhaaGreatDoorTieC
import Derived.Test.YtlaapfclbfkbhaaGreatDoorRun
import Derived.Test.YtlaapfclbfkbhaaGreatDoorFactB
import Derived.Test.YtlaapfclbfkbhaaGreatDoorFactC
import Derived.Test.YtlaapfclbfkbhaaGreatDoorReachB
import Derived.Test.YtlaapfclbfkbhaaGreatDoorAmKit
import Derived.ProofKit
import Derived.OpenShut
import Derived.LaidMore
import Derived.Lay
import Derived.SevenTiedAt
import Derived.Stop.Joined
namespace Go.Proofs.YtlaapfclbfkbhaaGreatDoor
open Go Go.ChangeShapes Go.WideShapes Go.ChangeAt Go.RowKit

theorem own : ownKnob Tryz.prog.godebug = none := by kernel_rfl
theorem gErr : Tryz.prog.globalNamed "strconv.ErrSyntax" = some 4 := by kernel_rfl
theorem tErr : (Tryz.prog.globals[4]?).map (·.type) = some 108 := by kernel_rfl
theorem mixed : Tryz.prog.follows .mixedOrders = true := by kernel_rfl

/-- What the row's premise says of 'strconv.ErrSyntax': one cell. -/
theorem of_laid {W : World} (h : laidMetH Tryz.prog Rows.serverNilRow.laid W) : ∃ c e fr, c.oneCell' = true ∧ W.heap[4]? = some (.cells #[c] e fr) := by
  rw [MakeChecks.laidMetH_plain _ _ _ (by kernel_rfl)] at h
  obtain ⟨ps, h, _, _⟩ := h
  obtain ⟨_, _, _, _, _, q0, _, _, _, _, h, _⟩ := h
  obtain ⟨_, _, _, _, _, q1, _, _, _, _, h, _⟩ := h
  obtain ⟨_, _, _, _, _, q2, _, _, _, _, h, _⟩ := h
  obtain ⟨_, _, _, _, _, q3, _, _, _, _, h, _⟩ := h
  obtain ⟨_, _, _, _, _, q4, _, _, _, _, h, _⟩ := h
  obtain ⟨_, _, _, _, _, q5, _, _, _, _, h, _⟩ := h
  obtain ⟨_, _, _, _, _, q6, _, _, _, _, h, _⟩ := h
  obtain ⟨g, t, cs, fuel, p, q7, hg, ht, hv, hd, _, _⟩ := h
  obtain rfl := Option.some.inj (gErr.symm.trans hg)
  obtain rfl := Option.some.inj (tErr.symm.trans ht)
  obtain ⟨c, hc, h1⟩ := AM.iface_cell Tryz.underlying108 hd
  obtain ⟨e, fr, hh⟩ := AM.var_heap hg hv
  refine ⟨c, e, fr, h1, ?_⟩
  rw [hh, Array.eq_one_of_toList hc]

theorem walk {W : World} {cs : List Value} (h8 : cs.length = 8) (h1 : ∀ x ∈ cs, x.oneCell' = true) (hl : laidMetH Tryz.prog Rows.serverNilRow.laid W) :
    Calls Tryz.prog 3 #[.agg ⟨cs⟩] W (fun e w' => e = .returned (.bool true) ∧ Below W.heap.size W w') := by
  obtain ⟨c, e, fr, hc, hh⟩ := of_laid hl
  have hE : ∀ i, (AM.extV (cs ++ [c]) i).oneCell' = true := AM.extV_one fun x hx => by
    rcases List.mem_append.1 hx with hx | hx
    · exact h1 x hx
    · rw [List.mem_singleton.1 hx]; exact hc
  obtain ⟨ρ, hr⟩ := AM.HeapR.init (E := AM.extV (cs ++ [c])) (G := 16) (w := W) (h := h0) (by decide) (fun g hg => by
    have hg4 : g = 4 := by
      have : Nat.testBit (2 ^ 4) g = true := hg
      rw [Nat.testBit_two_pow] at this
      exact (of_decide_eq_true this).symm
    subst hg4
    refine ⟨by decide, by kernel_rfl, #[c], e, fr, hh, ?_⟩
    exact AM.roOne (AM.extV_at (by rw [List.getElem?_append_right (by omega), h8]; rfl)))
  refine AM.calls_of_eval hE mixed hr (al := [ev0]) ?_ run_true
  refine .cons ?_ .nil
  have := AM.VR_struct (ρ := ρ) cs [] [c]
  rw [h8] at this
  exact this

theorem underEvent : ∃ fs, Tryz.prog.underlying 23 = some (.struct fs) := ⟨_, Tryz.underlying23⟩

set_option maxRecDepth 100000 in
theorem lifted (os : Os) (started : os.Started) (H : Type) (enc : TypeId × Value → H) :
    ReturnsInHanded {} Tryz.checked os 3 .any (fun w args => (Rows.serverNilSpec.pre enc Tryz.prog Tryz.f3 [] false w args ∧ laidMetH Tryz.prog Rows.serverNilRow.laid w) ∧ sizedMet enc Tryz.prog Tryz.f3 (OpenSpec.ofChange Rows.serverNilSpec) false w args)
      (Rows.serverNilSpec.post enc Tryz.prog Tryz.f3 false true false false) := by
  refine returnsInHanded_of_change_and (C := Tryz.checked) (X := fun w _ => laidMetH Tryz.prog Rows.serverNilRow.laid w) (fun _ _ _ hh h => h.of_heap hh) own started (by kernel_rfl) Tryz.func3
    (ChangeSpec.witness_shaped (enc := enc) (C := Tryz.checked) (os := os) (X := fun w _ => laidMetH Tryz.prog Rows.serverNilRow.laid w) false (World.laidAll Tryz.prog os Rows.serverNilRow.laid)
      #[.agg #[.int .i64 0, .string ⟨#[]⟩, .string ⟨#[]⟩, .string ⟨#[]⟩, .string ⟨#[]⟩, .int .i64 0, .int .i64 0, .int .i64 0]] 8 (World.laidAll_os _ _ _)
      (World.shaped_of_ZipB (by kernel_rfl) (by kernel_rfl)) (by kernel_rfl) (by kernel_rfl) (by kernel_rfl)
      (by rw [MakeChecks.laidMetH_plain _ _ _ (by kernel_rfl)]; exact laidMet_laidAll _ (by kernel_rfl) (by kernel_rfl))) ?_
  intro W base args ds gs before hval0 hW _ _ hL _
  have hval : ∀ (j : Nat) t v, Tryz.f3.params[j]? = some t → args[j]? = some v → Value.okWide Tryz.prog W .any base t v := hval0
  have hW' := hW
  obtain ⟨p, q, hA0, hV, rfl, _, _⟩ := hW
  have hA : DataW.TrodAll enc Tryz.prog W 0 (fun _ => true) true Tryz.f3.params.toList args.toList ds p := hA0
  rw [Tryz.params3] at hA hval
  obtain ⟨v0, d0, rfl, rfl, h0⟩ := trodAll_one hA
  obtain ⟨rfl, rfl⟩ := trodVars_none hV
  clear hA0 hval0
  simp only [List.append_nil] at hW'
  obtain ⟨cs, rfl, h8, h1⟩ := AM.struct_cells Tryz.underlying23 (hval 0 23 v0 rfl rfl)
  have c8 : Tryz.prog.cellsOf 23 = 8 := by kernel_rfl
  refine (walk (h8.trans c8) h1 hL).mono fun e W' ⟨he, hw⟩ => ?_
  subst he
  exact ⟨_, rfl, AM.post_true (t := 23) (tb := 4) rfl ⟨rfl, rfl, rfl⟩ Tryz.params3 (by kernel_rfl) (by kernel_rfl) laidOut (by kernel_rfl) (of_decide_eq_true (by kernel_rfl)) hW' h0 hw⟩
end Go.Proofs.YtlaapfclbfkbhaaGreatDoor

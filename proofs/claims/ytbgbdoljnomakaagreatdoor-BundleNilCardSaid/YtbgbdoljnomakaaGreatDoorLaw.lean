import Derived.Test.YtbgbdoljnomakaaGreatDoorCards
import Derived.Test.YtbgbdoljnomakaaGreatDoorTieA
import Derived.Test.YtbgbdoljnomakaaGreatDoorTieC
import Derived.Test.YtbgbdoljnomakaaGreatDoorFactB
import Derived.Test.YtbgbdoljnomakaaGreatDoorFactC
import Derived.Test.YtbgbdoljnomakaaGreatDoorReachB
import Derived.Test.YtbgbdoljnomakaaGreatDoorAmKit
import Derived.Test.YtbgbdoljnomakaaGreatDoorAll
import Derived.Test.YtbgbdoljnomakaaGreatDoorLAll
import Derived.Test.YtbgbdoljnomakaaGreatDoorMAll
import Derived.Test.YtbgbdoljnomakaaGreatDoorShort
import Derived.Test.YtbgbdoljnomakaaGreatDoorLays
import Derived.ProofKit
import Derived.OpenShut
import Derived.LaidMore
import Derived.Lay
import Derived.Deep.Slices
import Derived.Lib.SmallJoins
import Derived.SevenTiedAt
import Derived.Stop.Joined
/- The law 'BundleNil': the row and its tied card. -/
namespace Go.Proofs.YtbgbdoljnomakaaGreatDoor
open Go Go.ChangeShapes Go.WideShapes Go.ChangeAt Go.RowKit

theorem own : ownKnob Tryz.prog.godebug = none := by kernel_rfl
theorem mixed : Tryz.prog.follows .mixedOrders = true := laysMixed

section
variable {H : Type} {enc : TypeId × Value → H} {W : World} {base : Nat} {sp : Nat → Bool} {held : Bool}

set_option maxRecDepth 100000 in
/-- An element of the query's list: its text and its list. -/
theorem elem_cells {fuel : Nat} {a : Addr} {cs : List Value} {x : DataW H × List MemPlace} (hc : W.cells? base a 5 = some cs) (h : DataW.trod enc Tryz.prog W base sp held fuel 49 cs = some x) :
    ∃ (b : ByteArray) (n : Nat), W.cell? ⟨a.block, a.off + 2, none⟩ = some (.string b) ∧ ∃ oa c, W.cell? ⟨a.block, a.off + 4, none⟩ = some (.slice oa n c) := by
  obtain ⟨xs, n, _, _, hl, hlen, hf⟩ := DataW.trod_struct Tryz.underlying49 h
  obtain ⟨_, hsz, hcell⟩ := World.cells?_some hc
  have e2 := hcell 2 (by decide)
  have e4 := hcell 4 (by decide)
  have g2 := hf 2 _ rfl
  have g4 := hf 4 _ rfl
  match cs, hsz with
  | [c0, c1, c2, c3, c4], _ =>
    have k9 : Tryz.prog.cellsOf 9 = 1 := by kernel_rfl
    have k32 : Tryz.prog.cellsOf 32 = 1 := by kernel_rfl
    have g2' : DataW.trod enc Tryz.prog W base sp held n 9 [c2] = xs[2]? := by simpa [k9] using g2
    have g4' : DataW.trod enc Tryz.prog W base sp held n 32 [c4] = xs[4]? := by simpa [k32] using g4
    have hx2 : ∃ y, xs[2]? = some y := ⟨xs[2]'(by rw [hlen]; decide), List.getElem?_eq_getElem _⟩
    have hx4 : ∃ y, xs[4]? = some y := ⟨xs[4]'(by rw [hlen]; decide), List.getElem?_eq_getElem _⟩
    obtain ⟨y2, q2⟩ := hx2
    obtain ⟨y4, q4⟩ := hx4
    obtain ⟨b, hb, _, _⟩ := DataW.trod_string Tryz.underlying9 (g2'.trans q2)
    have hb' : c2 = .string b := by simpa using hb
    have h4 : ∃ oa m c, c4 = .slice oa m c := by
      rcases Deep.open_slice Tryz.underlying32 (g4'.trans q4) with ⟨he, _⟩ | ⟨oa, m, c, _, _, _, _, he, _⟩
      · exact ⟨none, 0, 0, by simpa using he⟩
      · exact ⟨some oa, m, c, by simpa using he⟩
    obtain ⟨oa, m, c, h4⟩ := h4
    refine ⟨b, m, ?_, oa, c, ?_⟩
    · rw [← hb']; exact e2
    · rw [← h4]; exact e4

set_option maxRecDepth 100000 in
/-- The test of the query's size: the same answer in every world in which the query is as it was. -/
theorem short_all {v : Value} {d : DataW H} {p : List MemPlace} (hv : Value.okWide Tryz.prog W .any base 24 v) (h : DataW.Trod enc Tryz.prog W 0 sp held 24 v d p) :
    ∃ cs : List Value, v = .agg ⟨cs⟩ ∧ cs.length = 3 ∧ ∃ b, ∀ w, Below W.heap.size W w → Calls Tryz.prog 5 #[.agg ⟨cs⟩] w (fun e w' => e = .returned (.bool b) ∧ Below w.heap.size w w') := by
  obtain ⟨v0, v1, v2, y0, y1, y2, n, rfl, _, _, h0, h1, h2⟩ := Joins.open_agg3 Tryz.underlying24 (by kernel_rfl) (by kernel_rfl) hv h
  refine ⟨[v0, v1, v2], rfl, rfl, ?_⟩
  obtain ⟨s, hs, _, _⟩ := DataW.trod_string Tryz.underlying9 h0
  obtain ⟨i, hi, _, _⟩ := DataW.trod_string Tryz.underlying9 h1
  obtain rfl : v0 = .string s := by simpa using hs
  obtain rfl : v1 = .string i := by simpa using hi
  rcases Deep.open_slice Tryz.underlying22 h2 with ⟨he, _⟩ | ⟨a, len, cap, m, k, D, Pl, he, hb, hl, hm, hmm, _, hel⟩
  · obtain rfl : v2 = .slice none 0 0 := by simpa using he
    refine ⟨shortB (fun _ => ⟨#[]⟩) (fun _ => 0) s i 0, fun w _ => (short_nil s i (fun _ => ⟨#[]⟩) (fun _ => 0) w).mono fun e w' ⟨b, h1, h2, h3⟩ => ?_⟩
    unfold IsB at h2
    subst h2
    exact ⟨h1, h3⟩
  · obtain rfl : v2 = .slice (some a) len cap := by simpa using he
    have hml : len ≤ m := by rw [hmm]; split <;> omega
    have k5 : Tryz.prog.cellsOf 49 = 5 := by kernel_rfl
    have hex : ∀ j, ∃ bn : ByteArray × Nat, j < len → (W.cell? ⟨(a.add (j * 5)).block, (a.add (j * 5)).off + 2, none⟩ = some (.string bn.1) ∧ ∃ oa c, W.cell? ⟨(a.add (j * 5)).block, (a.add (j * 5)).off + 4, none⟩ = some (.slice oa bn.2 c)) := by
      intro j
      by_cases hj : j < len
      · obtain ⟨cs', g1, g2⟩ := hel j (by omega)
        rw [k5] at g1
        obtain ⟨b, n, q1, q2⟩ := elem_cells g1 g2
        exact ⟨(b, n), fun _ => ⟨q1, q2⟩⟩
      · exact ⟨(⟨#[]⟩, 0), fun h => absurd h hj⟩
    obtain ⟨TN, hTN⟩ := Classical.axiomOfChoice hex
    refine ⟨shortB (fun j => (TN j).1) (fun j => (TN j).2) s i len, fun w hw => ?_⟩
    have hold : ∀ (p : Addr) (u : Value), W.cell? p = some u → w.cell? p = some u := fun p u h => by
      have hb : p.block < W.heap.size := by
        cases hh : W.heap[p.block]? with
        | none => simp [World.cell?, hh] at h
        | some _ => exact (Array.getElem?_eq_some_iff.1 hh).1
      rw [hw.cell hb, h]
    refine (short_walk s i a len cap (fun j => (TN j).1) (fun j => (TN j).2) w (by omega) (fun j hj => hold _ _ (hTN j hj).1) (fun j hj => ?_)).mono fun e w' ⟨b, h1, h2, h3⟩ => ?_
    · obtain ⟨oa, c, hc⟩ := (hTN j hj).2
      exact ⟨oa, c, hold _ _ hc⟩
    · unfold IsB at h2
      subst h2
      exact ⟨h1, h3⟩
end

/-- The heap that a run begins with: 'internal/bytealg.MaxLen' alone. -/
theorem init_of {E : Nat → Value} {w : World} {h : AM.Heap} {mx : Int} {e : Nat} {fr : Nat × Nat} (hx : E 0 = .int .i64 mx) (hh : w.heap[3]? = some (.cells #[.int .i64 mx] e fr)) (hn : h.next ≤ AM.LIMIT) (h3 : 3 < h.next) (ha : h.at 3 = .cells (AM.rowSet .leaf 0 (.ext 0)) 1 3 false 0 false true) :
    ∃ ρ, AM.HeapR E 8 w ρ h w :=
  AM.HeapR.init hn (fun g hg => by
    have hg3 : g = 3 := by
      have : Nat.testBit (2 ^ 3) g = true := hg
      rw [Nat.testBit_two_pow] at this
      exact (of_decide_eq_true this).symm
    subst hg3
    refine ⟨h3, by rw [ha]; rfl, _, e, fr, hh, ?_⟩
    rw [ha]
    exact AM.roOne hx)

theorem sums_ok {E : Nat → Value} {w0 : World} {mx : Int} (hx : E 0 = .int .i64 mx) : @AM.SumOk sums E 8 w0 Tryz.prog :=
  fun hr hs hv => AM.idxSm_ok lays hx (by decide) hr hs hv

/-- 'awake' answers true. -/
theorem awake_true {E : Nat → Value} {w : World} {mx : Int} {e : Nat} {fr : Nat × Nat} (hE : ∀ i, (E i).oneCell' = true) (hx : E 0 = .int .i64 mx) (hh : w.heap[3]? = some (.cells #[.int .i64 mx] e fr)) :
    Calls Tryz.prog 4 #[] w (fun e w' => e = .returned (.bool true) ∧ Below w.heap.size w w') := by
  obtain ⟨ρ, hr⟩ := init_of (h := AM.heapOf [(3, ao1)] 8) hx hh (by decide) (by decide) (by kernel_rfl)
  refine (@AM.calls_of_ends sums Tryz.prog _ E 8 w hE (sums_ok hx) mixed 4 [] ρ _ hr [] .nil af0 (by kernel_rfl) ae0).mono fun e w' ⟨v, x, ρ', hq, he, hvr, hb⟩ => ?_
  subst hq
  have : x = .bool true := hvr
  subst this
  exact ⟨he, hb⟩

/-- The law answers true, whatever 'short' answers. -/
theorem law_true {E : Nat → Value} {W : World} {cs : List Value} {mx : Int} {e : Nat} {fr : Nat × Nat} {b : Bool} (hE : ∀ i, (E i).oneCell' = true) (hx : E 0 = .int .i64 mx) (hh : W.heap[3]? = some (.cells #[.int .i64 mx] e fr))
    (hq : ∀ ρ, AM.VR E ρ (.agg (.cons (.ext 1) (.cons (.ext 2) (.cons (.ext 3) .nil)))) (.agg ⟨cs⟩))
    (hsh : ∀ w, Below W.heap.size W w → Calls Tryz.prog 5 #[.agg ⟨cs⟩] w (fun e w' => e = .returned (.bool b) ∧ Below w.heap.size w w')) :
    Calls Tryz.prog 3 #[.agg ⟨cs⟩] W (fun e w' => e = .returned (.bool true) ∧ Below W.heap.size W w') := by
  have h3 : 3 < W.heap.size := (Array.getElem?_eq_some_iff.1 hh).1
  have hS : ∀ b', b' = b → @AM.SumOk (sumsL b') E 8 W Tryz.prog := by
    intro b' hb'
    subst hb'
    refine AM.lawSm_ok (fun {ρ h w} hr => awake_true hE hx ((hr.below.block 3 h3).trans hh)) (fun {ρ h w vals} hr hv => ?_) (sums_ok hx)
    obtain ⟨x, rfl, hx'⟩ := AM.F2.left_one hv
    obtain ⟨xs, rfl, h1, h2⟩ := hx'
    obtain ⟨ys, h4, h5, h6⟩ := hq ρ
    have e1 : ys = cs := by simpa using h4.symm
    subst e1
    obtain ⟨a1, l1, r1, v1, h1⟩ := h2
    obtain ⟨a2, l2, r2, v2, h1⟩ := h1
    obtain ⟨a3, l3, r3, v3, h1⟩ := h1
    obtain ⟨a4, m1, s1, u1, h6⟩ := h6
    obtain ⟨a5, m2, s2, u2, h6⟩ := h6
    obtain ⟨a6, m3, s3, u3, h6⟩ := h6
    have : xs = ys := by
      have h1' : Value.tuple ⟨l3⟩ = .tuple ⟨[]⟩ := h1
      have h6' : Value.tuple ⟨m3⟩ = .tuple ⟨[]⟩ := h6
      clear h1 h6
      simp only [Value.tuple.injEq, Array.mk.injEq] at r1 r2 r3 s1 s2 s3 h1' h6'
      subst r1 r2 r3 s1 s2 s3 h1' h6'
      have q1 : a1 = a4 := v1.trans u1.symm
      have q2 : a2 = a5 := v2.trans u2.symm
      have q3 : a3 = a6 := v3.trans u3.symm
      rw [q1, q2, q3]
    subst this
    exact hsh w hr.below
  cases b with
  | true =>
    obtain ⟨ρ, hr⟩ := init_of (h := AM.heapOf [(3, bo1)] 8) hx hh (by decide) (by decide) (by kernel_rfl)
    refine (@AM.calls_of_ends (sumsL true) Tryz.prog _ E 8 W hE (hS true rfl) mixed 3 [.agg ⟨cs⟩] ρ _ hr _ (.cons (hq ρ) .nil) bf0 (by kernel_rfl) be0).mono fun e w' ⟨v, x, ρ', hq, he, hvr, hb⟩ => ?_
    subst hq
    have : x = .bool true := hvr
    subst this
    exact ⟨he, hb⟩
  | false =>
    obtain ⟨ρ, hr⟩ := init_of (h := AM.heapOf [(3, co1)] 8) hx hh (by decide) (by decide) (by kernel_rfl)
    refine (@AM.calls_of_ends (sumsL false) Tryz.prog _ E 8 W hE (hS false rfl) mixed 3 [.agg ⟨cs⟩] ρ _ hr _ (.cons (hq ρ) .nil) cf0 (by kernel_rfl) ce0).mono fun e w' ⟨v, x, ρ', hq, he, hvr, hb⟩ => ?_
    subst hq
    have : x = .bool true := hvr
    subst this
    exact ⟨he, hb⟩

set_option maxRecDepth 100000 in
theorem lifted (os : Os) (started : os.Started) (H : Type) (enc : TypeId × Value → H) :
    ReturnsInHanded {} Tryz.checked os 3 .any (fun w args => (Rows.bundleNilSpec.pre enc Tryz.prog Tryz.f3 [] false w args ∧ laidMetH Tryz.prog Rows.bundleNilRow.laid w) ∧ sizedMet enc Tryz.prog Tryz.f3 (OpenSpec.ofChange Rows.bundleNilSpec) false w args)
      (Rows.bundleNilSpec.post enc Tryz.prog Tryz.f3 false true false false) := by
  refine AM.handed_shaped (C := Tryz.checked) (X := fun w _ => laidMetH Tryz.prog Rows.bundleNilRow.laid w) (fun _ _ _ hh h => h.of_heap hh) own started (by kernel_rfl) Tryz.func3
    (ChangeSpec.witness_shaped (enc := enc) (C := Tryz.checked) (os := os) (X := fun w _ => laidMetH Tryz.prog Rows.bundleNilRow.laid w) false (World.laidAll Tryz.prog os Rows.bundleNilRow.laid)
      #[.agg #[.string ⟨#[]⟩, .string ⟨#[]⟩, .slice none 0 0]] 8 (World.laidAll_os _ _ _)
      (World.shaped_of_ZipB (by kernel_rfl) (by kernel_rfl)) (by kernel_rfl) (by kernel_rfl) (by kernel_rfl)
      (by rw [MakeChecks.laidMetH_plain _ _ _ (by kernel_rfl)]; exact laidMet_laidAll _ (by kernel_rfl) (by kernel_rfl))) ?_
  intro W base args ds gs before hsh hval0 hW _ _ _ _
  have hval : ∀ (j : Nat) t v, Tryz.f3.params[j]? = some t → args[j]? = some v → Value.okWide Tryz.prog W .any base t v := hval0
  have hW' := hW
  obtain ⟨p, q, hA0, hV, rfl, _, _⟩ := hW
  have hA : DataW.TrodAll enc Tryz.prog W 0 (fun _ => true) true Tryz.f3.params.toList args.toList ds p := hA0
  rw [Tryz.params3] at hA hval
  obtain ⟨v0, d0, rfl, rfl, h0⟩ := trodAll_one hA
  obtain ⟨rfl, rfl⟩ := trodVars_none hV
  clear hA0 hval0
  simp only [List.append_nil] at hW'
  have hv0 := hval 0 24 v0 rfl rfl
  obtain ⟨cs, rfl, h3, b, hb⟩ := short_all hv0 h0
  obtain ⟨cs', he, _, h1⟩ := AM.struct_cells Tryz.underlying24 hv0
  obtain rfl : cs = cs' := by simpa using he
  obtain ⟨mx, hm⟩ := AM.int_of_shape (g := 3) (t := 3) (zero := #[.int .i64 0]) (k := .i64) hsh (of_decide_eq_true (by kernel_rfl)) (by kernel_rfl) rfl (by kernel_rfl) (by kernel_rfl) Tryz.underlying3
  have hE : ∀ i, (AM.extV ([.int .i64 mx] ++ cs ++ []) i).oneCell' = true := AM.extV_one fun x hx => by
    rcases List.mem_append.1 hx with hx | hx
    · rcases List.mem_append.1 hx with hx | hx
      · rw [List.mem_singleton.1 hx]; rfl
      · exact h1 x hx
    · cases hx
  have hq : ∀ ρ, AM.VR (AM.extV ([.int .i64 mx] ++ cs ++ [])) ρ (.agg (.cons (.ext 1) (.cons (.ext 2) (.cons (.ext 3) .nil)))) (.agg ⟨cs⟩) := fun ρ => by
    have := AM.VR_struct (ρ := ρ) cs [.int .i64 mx] []
    rw [h3] at this
    exact this
  refine (law_true hE (AM.extV_at rfl) hm hq hb).mono fun e W' ⟨he, hw⟩ => ?_
  subst he
  exact ⟨_, rfl, AM.post_true (t := 24) (tb := 4) rfl ⟨rfl, rfl, rfl⟩ Tryz.params3 (by kernel_rfl) (by kernel_rfl) laidOut (by kernel_rfl) (of_decide_eq_true (by kernel_rfl)) hW' h0 hw⟩
end Go.Proofs.YtbgbdoljnomakaaGreatDoor

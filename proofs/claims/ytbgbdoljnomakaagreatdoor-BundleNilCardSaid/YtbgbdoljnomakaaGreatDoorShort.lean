/- The function 'short': whatever the query, it returns one bool, and turns nothing that was there. -/
import Derived.Test.YtbgbdoljnomakaaGreatDoorProg
import Derived.WalkKit
import Derived.ProofKit
import Derived.BigCall
import Derived.Below
import Derived.KernelRfl
namespace Go.Proofs.YtbgbdoljnomakaaGreatDoor
open Go Go.RowKit

/-- Elements as they read: the text's length, the list's length. -/
def fits (T : Nat → ByteArray) (N : Nat → Nat) (k : Nat) : Bool := decide ((T k).size ≤ 200) && decide (N k ≤ 20)
def shortB (T : Nat → ByteArray) (N : Nat → Nat) (s i : ByteArray) (len : Nat) : Bool :=
  (List.range len).all (fits T N) && (decide (s.size ≤ 100) && (decide (i.size ≤ 300) && decide (len ≤ 30)))
def IsB (T : Nat → ByteArray) (N : Nat → Nat) (s i : ByteArray) (len : Nat) (b : Bool) : Prop := b = shortB T N s i len

theorem isB_no {T : Nat → ByteArray} {N : Nat → Nat} {s i : ByteArray} {len k : Nat} (hk : k < len) (h : fits T N k = false) : IsB T N s i len false := by
  unfold IsB shortB
  have : (List.range len).all (fits T N) = false := by
    rw [List.all_eq_false]
    exact ⟨k, List.mem_range.2 hk, by rw [h]; decide⟩
  rw [this]; rfl

theorem isB_end {T : Nat → ByteArray} {N : Nat → Nat} {s i : ByteArray} {len k : Nat} (hk : ¬ k < len) (hk' : k ≤ len) (h : ∀ j, j < k → fits T N j = true) {b : Bool} (hb : b = (decide (s.size ≤ 100) && (decide (i.size ≤ 300) && decide (len ≤ 30)))) : IsB T N s i len b := by
  unfold IsB shortB
  have : (List.range len).all (fits T N) = true := List.all_eq_true.2 fun x hx => h x (by have := List.mem_range.1 hx; omega)
  rw [this, hb]; rfl

set_option maxHeartbeats 4000000 in
set_option maxRecDepth 100000 in
theorem short_walk (s i : ByteArray) (a : Addr) (len cap : Nat) (T : Nat → ByteArray) (N : Nat → Nat) (w : World) (hl : len ≤ maxLen)
    (hT : ∀ k, k < len → w.cell? ⟨(a.add (k * 5)).block, (a.add (k * 5)).off + 2, none⟩ = some (.string (T k))) (hN : ∀ k, k < len → ∃ oa c, w.cell? ⟨(a.add (k * 5)).block, (a.add (k * 5)).off + 4, none⟩ = some (.slice oa (N k) c)) :
    Calls Tryz.prog 5 #[.agg #[.string s, .string i, .slice (some a) len cap]] w (fun e w' => ∃ b, e = .returned (.bool b) ∧ IsB T N s i len b ∧ Below w.heap.size w w') := by
  have hold : ∀ (o : Obj) (p : Addr) (v : Value), w.cell? p = some v → (w.alloc o).cell? p = some v := fun o p v h => by
    have hb : p.block < w.heap.size := by
      cases hh : w.heap[p.block]? with
      | none => simp [World.cell?, hh] at h
      | some _ => exact (Array.getElem?_eq_some_iff.1 hh).1
    rw [← h]
    exact World.cell?_of_block (w := w) (Below.heap_alloc w o p.block hb)
  have H : Hid (∀ k, k < len → (w.alloc (.cells #[.string s, .string i, .slice (some a) len cap] 24)).cell? ⟨(a.add (k * 5)).block, (a.add (k * 5)).off + 2, none⟩ = some (.string (T k)) ∧ ∃ oa c, (w.alloc (.cells #[.string s, .string i, .slice (some a) len cap] 24)).cell? ⟨(a.add (k * 5)).block, (a.add (k * 5)).off + 4, none⟩ = some (.slice oa (N k) c)) :=
    fun k hk => ⟨hold _ _ _ (hT k hk), by obtain ⟨oa, c, h⟩ := hN k hk; exact ⟨oa, c, hold _ _ _ h⟩⟩
  have hB : Hid (Below w.heap.size w (w.alloc (.cells #[.string s, .string i, .slice (some a) len cap] 24))) := (Below.refl _ _).alloc (Nat.le_refl _) _
  clear hT hN hold
  go_enter Tryz.func5, Tryz.ntmps5
  go_wp2
  go_loop [3] (fun t => ∃ k : Nat, k ≤ len ∧ t = .int .i64 k ∧ Hid (∀ j, j < k → fits T N j = true)) (fun t => len - (intOf t).toNat)
  case atStart => exact ⟨0, Nat.zero_le _, rfl, fun j hj => absurd hj (Nat.not_lt_zero _)⟩
  case round =>
    obtain ⟨k, hk, rfl, hfit⟩ := hrel
    by_cases hlt : k < len
    · obtain ⟨h2, oa, c, h4⟩ := H.out k hlt
      go_wp2
      · go_ret
        rename_i h5 h6
        refine .inl ⟨rfl, isB_no hlt ?_, hB.out⟩
        unfold fits
        simp only [Bool.and_eq_false_iff, decide_eq_false_iff_not]
        omega
      · have hw : wrap64 ((k : Int) + 1) = ((k + 1 : Nat) : Int) := by
          have : k + 1 ≤ maxLen := by omega
          unfold wrap64
          simp only [maxLen] at this
          omega
        rename_i h5 h6
        rw [hw]
        refine ⟨⟨k + 1, hlt, rfl, fun j hj => ?_⟩, ?_⟩
        · by_cases hjk : j = k
          · subst hjk
            unfold fits
            simp only [Bool.and_eq_true, decide_eq_true_eq]
            omega
          · exact hfit.out j (by omega)
        · simp only [intOf]
          omega
      · go_ret
        rename_i h5
        refine .inl ⟨rfl, isB_no hlt ?_, hB.out⟩
        unfold fits
        simp only [Bool.and_eq_false_iff, decide_eq_false_iff_not]
        omega
    · go_wp2
      · go_ret
        rename_i h5 h6
        by_cases h30 : len ≤ 30
        · refine .inr ⟨?_, isB_end hlt hk hfit.out ?_, hB.out⟩
          · show Ending.returned (Value.bool (decide ((len : Int) ≤ 30))) = _
            rw [decide_eq_true (by omega)]
          · rw [decide_eq_true (by omega), decide_eq_true (by omega), decide_eq_true h30]; rfl
        · refine .inl ⟨?_, isB_end hlt hk hfit.out ?_, hB.out⟩
          · show Ending.returned (Value.bool (decide ((len : Int) ≤ 30))) = _
            rw [decide_eq_false (by omega)]
          · rw [decide_eq_false h30, Bool.and_false, Bool.and_false]
      · go_ret
        rename_i h5 h6
        refine .inl ⟨rfl, isB_end hlt hk hfit.out ?_, hB.out⟩
        rw [decide_eq_false (show ¬ i.size ≤ 300 by omega), Bool.false_and, Bool.and_false]
      · go_ret
        rename_i h5
        refine .inl ⟨rfl, isB_end hlt hk hfit.out ?_, hB.out⟩
        rw [decide_eq_false (show ¬ s.size ≤ 100 by omega), Bool.false_and]

set_option maxHeartbeats 4000000 in
set_option maxRecDepth 100000 in
theorem short_nil (s i : ByteArray) (T : Nat → ByteArray) (N : Nat → Nat) (w : World) :
    Calls Tryz.prog 5 #[.agg #[.string s, .string i, .slice none 0 0]] w (fun e w' => ∃ b, e = .returned (.bool b) ∧ IsB T N s i 0 b ∧ Below w.heap.size w w') := by
  have hB : Hid (Below w.heap.size w (w.alloc (.cells #[.string s, .string i, .slice none 0 0] 24))) := (Below.refl _ _).alloc (Nat.le_refl _) _
  go_enter Tryz.func5, Tryz.ntmps5
  go_wp2
  go_loop [3] (fun t => t = .int .i64 0) (fun _ => 0)
  case atStart => rfl
  case round =>
    obtain rfl := hrel
    go_wp2
    · go_ret
      rename_i h5 h6
      refine .inr ⟨rfl, isB_end (k := 0) (by omega) (Nat.le_refl _) (fun j hj => absurd hj (Nat.not_lt_zero _)) ?_, hB.out⟩
      rw [decide_eq_true (show s.size ≤ 100 by omega), decide_eq_true (show i.size ≤ 300 by omega)]; rfl
    · go_ret
      rename_i h5 h6
      refine .inl ⟨rfl, isB_end (k := 0) (by omega) (Nat.le_refl _) (fun j hj => absurd hj (Nat.not_lt_zero _)) ?_, hB.out⟩
      rw [decide_eq_false (show ¬ i.size ≤ 300 by omega), Bool.false_and, Bool.and_false]
    · go_ret
      rename_i h5
      refine .inl ⟨rfl, isB_end (k := 0) (by omega) (Nat.le_refl _) (fun j hj => absurd hj (Nat.not_lt_zero _)) ?_, hB.out⟩
      rw [decide_eq_false (show ¬ s.size ≤ 100 by omega), Bool.false_and]
end Go.Proofs.YtbgbdoljnomakaaGreatDoor

/- What an abstract value and an abstract heap stand for, and what memory's operations keep of it. -/
import Derived.Test.YtbgbdoljnomakaaGreatDoorAmCore
import Derived.Laws.Cells
import Derived.Laws.Sem
namespace Go.AM
open Go.RowKit (Below)

/-! ### The tree -/
theorem T.seq_eq {α β : Type} (t : T α) (k : T α → β) : T.seq t k = k t := by cases t <;> rfl

theorem T.get_leaf {α : Type} (d : α) (n : Nat) : T.get d .leaf n = d := by
  unfold T.get
  cases wayOf n <;> rfl

theorem T.getW_leaf {α : Type} (d : α) (p : Way) : T.getW d p .leaf = d := by cases p <;> rfl

theorem T.getW_setW {α : Type} (d x : α) : ∀ (p q : Way) (t : T α), (q = p → T.getW d q (T.setW d x p t) = x) ∧ (q ≠ p → T.getW d q (T.setW d x p t) = T.getW d q t) := by
  intro p
  induction p with
  | here =>
    intro q t
    constructor
    · rintro rfl; cases t <;> rfl
    · intro hq
      cases q with
      | here => exact absurd rfl hq
      | l q => cases t with
        | leaf => exact T.getW_leaf d q
        | node l v r => rfl
      | r q => cases t with
        | leaf => exact T.getW_leaf d q
        | node l v r => rfl
  | l p ih =>
    intro q t
    have hs : ∀ l, T.seq (T.setW d x p l) (fun l => (.node l d .leaf : T α)) = .node (T.setW d x p l) d .leaf := fun l => T.seq_eq _ _
    have hs' : ∀ l v r, T.seq (T.setW d x p l) (fun l => (.node l v r : T α)) = .node (T.setW d x p l) v r := fun l v r => T.seq_eq _ _
    have e1 : T.setW d x (.l p) .leaf = .node (T.setW d x p .leaf) d .leaf := hs .leaf
    have e2 : ∀ l v r, T.setW d x (.l p) (.node l v r) = .node (T.setW d x p l) v r := fun l v r => hs' l v r
    cases t with
    | leaf =>
      rw [e1]
      cases q with
      | here => exact ⟨(fun h => nomatch h), fun _ => rfl⟩
      | l q =>
        refine ⟨fun h => ?_, fun h => ?_⟩
        · cases h; exact (ih p .leaf).1 rfl
        · have := (ih q .leaf).2 (fun e => h (by rw [e]))
          rw [T.getW_leaf] at this
          exact this
      | r q => exact ⟨(fun h => nomatch h), fun _ => T.getW_leaf d q⟩
    | node l v r =>
      rw [e2]
      cases q with
      | here => exact ⟨(fun h => nomatch h), fun _ => rfl⟩
      | l q =>
        refine ⟨fun h => ?_, fun h => ?_⟩
        · cases h; exact (ih p l).1 rfl
        · exact (ih q l).2 (fun e => h (by rw [e]))
      | r q => exact ⟨(fun h => nomatch h), fun _ => rfl⟩
  | r p ih =>
    intro q t
    have e1 : T.setW d x (.r p) .leaf = .node .leaf d (T.setW d x p .leaf) := T.seq_eq _ _
    have e2 : ∀ l v r, T.setW d x (.r p) (.node l v r) = .node l v (T.setW d x p r) := fun l v r => T.seq_eq _ _
    cases t with
    | leaf =>
      rw [e1]
      cases q with
      | here => exact ⟨(fun h => nomatch h), fun _ => rfl⟩
      | r q =>
        refine ⟨fun h => ?_, fun h => ?_⟩
        · cases h; exact (ih p .leaf).1 rfl
        · have := (ih q .leaf).2 (fun e => h (by rw [e]))
          rw [T.getW_leaf] at this
          exact this
      | l q => exact ⟨(fun h => nomatch h), fun _ => T.getW_leaf d q⟩
    | node l v r =>
      rw [e2]
      cases q with
      | here => exact ⟨(fun h => nomatch h), fun _ => rfl⟩
      | r q =>
        refine ⟨fun h => ?_, fun h => ?_⟩
        · cases h; exact (ih p r).1 rfl
        · exact (ih q r).2 (fun e => h (by rw [e]))
      | l q => exact ⟨(fun h => nomatch h), fun _ => rfl⟩

theorem wayF_inj : ∀ (f n m : Nat), n + 1 < 2 ^ f → wayF f m = wayF f n → m = n := by
  intro f
  induction f with
  | zero => intro n m h; simp at h
  | succ f ih =>
    intro n m h he
    rw [Nat.pow_succ] at h
    cases n with
    | zero =>
      cases m with
      | zero => rfl
      | succ m => rcases Nat.mod_two_eq_zero_or_one m with hm | hm <;> simp [wayF, hm] at he
    | succ n =>
      cases m with
      | zero => rcases Nat.mod_two_eq_zero_or_one n with hn | hn <;> simp [wayF, hn] at he
      | succ m =>
        rcases Nat.mod_two_eq_zero_or_one n with hn | hn <;> rcases Nat.mod_two_eq_zero_or_one m with hm | hm <;> simp only [wayF, hn, hm, Way.l.injEq, Way.r.injEq, reduceCtorEq] at he
        · have := ih (n / 2) (m / 2) (by omega) he; omega
        · have := ih (n / 2) (m / 2) (by omega) he; omega

theorem T.get_set {α : Type} (d x : α) (t : T α) (n m : Nat) (h : n + 1 < 2 ^ FUEL) : T.get d (T.set d n t x) m = if m = n then x else T.get d t m := by
  unfold T.get T.set
  obtain ⟨h1, h2⟩ := T.getW_setW d x (wayOf n) (wayOf m) t
  by_cases hm : m = n
  · rw [if_pos hm]; exact h1 (by rw [hm])
  · rw [if_neg hm]; exact h2 fun e => hm (wayF_inj _ _ _ h e)

theorem small_fuel {n : Nat} (h : n < LIMIT) : n + 1 < 2 ^ FUEL := by unfold LIMIT at h; unfold FUEL; omega

theorem envGet_set (e : T AV) (t : Nat) (v : AV) (u : Nat) (h : t < LIMIT) : envGet (envSet e t v) u = if u = t then v else envGet e u := T.get_set _ _ _ _ _ (small_fuel h)
theorem rowGet_set (e : T AV) (t : Nat) (v : AV) (u : Nat) (h : t < LIMIT) : rowGet (rowSet e t v) u = if u = t then v else rowGet e u := T.get_set _ _ _ _ _ (small_fuel h)
theorem Heap.at_put (h : Heap) (b : Nat) (o : AObj) (c : Nat) (hb : b < LIMIT) : (h.put b o).at c = if c = b then o else h.at c := T.get_set _ _ _ _ _ (small_fuel hb)
theorem Heap.at_push (h : Heap) (o : AObj) (c : Nat) (hb : h.next < LIMIT) : (h.push o).at c = if c = h.next then o else h.at c := T.get_set _ _ _ _ _ (small_fuel hb)
theorem Heap.next_put (h : Heap) (b : Nat) (o : AObj) : (h.put b o).next = h.next := rfl
theorem Heap.next_push (h : Heap) (o : AObj) : (h.push o).next = h.next + 1 := rfl

/-! ### What the forced forms are -/
theorem natSeq_eq {β : Type} (n : Nat) (k : Nat → β) : natSeq n k = k n := by cases n <;> rfl
theorem intSeq_eq {β : Type} (n : Int) (k : Int → β) : intSeq n k = k n := by cases n <;> simp [intSeq, natSeq_eq]
theorem mkInt_eq (k : IntKind) (n : Int) : mkInt k n = .int k n := intSeq_eq _ _
theorem mkStr_eq (l n : Nat) : mkStr l n = .str l n := by simp [mkStr, natSeq_eq]
theorem mkBool_eq (b : Bool) : mkBool b = .bool b := by cases b <;> rfl

/-! ### Strings -/
theorem strBytes_length : ∀ (k n : Nat), (strBytes k n).length = k
  | 0, _ => rfl
  | k + 1, n => by simp [strBytes, strBytes_length k]

theorem strVal_append (a b : List UInt8) : strVal (a ++ b) = strVal a * 256 ^ b.length + strVal b := by
  unfold strVal
  rw [List.foldl_append]
  have key : ∀ (l : List UInt8) (x : Nat), l.foldl (fun a b => a * 256 + b.toNat) x = x * 256 ^ l.length + l.foldl (fun a b => a * 256 + b.toNat) 0 := by
    intro l
    induction l with
    | nil => intro x; simp
    | cons c l ih =>
      intro x
      simp only [List.foldl_cons, List.length_cons]
      rw [ih (x * 256 + c.toNat), ih (0 * 256 + c.toNat), Nat.pow_succ, Nat.zero_mul, Nat.zero_add, Nat.add_mul]
      have : x * 256 * 256 ^ l.length = x * (256 ^ l.length * 256) := by rw [Nat.mul_assoc, Nat.mul_comm 256]
      omega
  exact key b _

theorem strBytes_append : ∀ (lb la a b : Nat), b < 256 ^ lb → strBytes (la + lb) (a * 256 ^ lb + b) = strBytes la a ++ strBytes lb b := by
  intro lb
  induction lb with
  | zero => intro la a b h; simp at h; subst h; simp [strBytes]
  | succ k ih =>
    intro la a b h
    rw [Nat.pow_succ] at h ⊢
    have e1 : (a * (256 ^ k * 256) + b) / 256 = a * 256 ^ k + b / 256 := by
      rw [show a * (256 ^ k * 256) = (a * 256 ^ k) * 256 from by rw [Nat.mul_assoc]]
      omega
    have e2 : (a * (256 ^ k * 256) + b) % 256 = b % 256 := by
      rw [show a * (256 ^ k * 256) = (a * 256 ^ k) * 256 from by rw [Nat.mul_assoc]]
      omega
    rw [show la + (k + 1) = (la + k) + 1 from rfl]
    simp only [strBytes]
    rw [e1, e2, ih _ _ _ (by omega), List.append_assoc]

theorem strBytes_strVal (l : List UInt8) : strBytes l.length (strVal l) = l := by
  have key : ∀ r : List UInt8, strBytes r.reverse.length (strVal r.reverse) = r.reverse := by
    intro r
    induction r with
    | nil => rfl
    | cons c r ih =>
      rw [List.reverse_cons, strVal_append]
      have hc : strVal [c] = c.toNat := by simp [strVal]
      have hl : c.toNat < 256 := c.toNat_lt
      simp only [List.length_append, List.length_singleton, Nat.pow_one, hc]
      simp only [strBytes]
      rw [show (strVal r.reverse * 256 + c.toNat) / 256 = strVal r.reverse from by omega, show (strVal r.reverse * 256 + c.toNat) % 256 = c.toNat from by omega, ih]
      congr 1
      simp
  have := key l.reverse
  rwa [List.reverse_reverse] at this

theorem strVal_lt : ∀ l : List UInt8, strVal l < 256 ^ l.length := by
  intro l
  have key : ∀ r : List UInt8, strVal r.reverse < 256 ^ r.reverse.length := by
    intro r
    induction r with
    | nil => simp [strVal]
    | cons c r ih =>
      rw [List.reverse_cons, strVal_append]
      have hc : strVal [c] = c.toNat := by simp [strVal]
      have hl : c.toNat < 256 := c.toNat_lt
      simp only [List.length_append, List.length_singleton, hc, Nat.pow_succ]
      omega
  have := key l.reverse
  rwa [List.reverse_reverse] at this

theorem strBytes_inj : ∀ (k a b : Nat), a < 256 ^ k → b < 256 ^ k → strBytes k a = strBytes k b → a = b := by
  intro k
  induction k with
  | zero => intro a b ha hb _; simp at ha hb; omega
  | succ k ih =>
    intro a b ha hb h
    rw [Nat.pow_succ] at ha hb
    simp only [strBytes] at h
    obtain ⟨h1, h2⟩ := List.append_inj' h rfl
    have e1 := ih _ _ (by omega) (by omega) h1
    simp only [List.cons.injEq, and_true] at h2
    have e2 := congrArg UInt8.toNat h2
    simp at e2
    omega

theorem strBytes_eq_iff (la a lb b : Nat) (ha : a < 256 ^ la) (hb : b < 256 ^ lb) : (strBytes la a == strBytes lb b) = (Nat.beq la lb && Nat.beq a b) := by
  rw [Bool.eq_iff_iff]
  simp only [beq_iff_eq, Bool.and_eq_true, Nat.beq_eq]
  constructor
  · intro h
    have hl : la = lb := by simpa [strBytes_length] using congrArg List.length h
    subst hl
    exact ⟨rfl, strBytes_inj _ _ _ ha hb h⟩
  · rintro ⟨rfl, rfl⟩; rfl

theorem strBytes_take : ∀ (k h n : Nat), h ≤ k → (strBytes k n).take h = strBytes h (n / 256 ^ (k - h)) := by
  intro k
  induction k with
  | zero => intro h n hh; have : h = 0 := by omega
            subst this; rfl
  | succ k ih =>
    intro h n hh
    rcases Nat.lt_or_ge k h with h1 | h1
    · have : h = k + 1 := by omega
      subst this
      rw [List.take_of_length_le (by rw [strBytes_length]; omega)]
      simp
    · simp only [strBytes]
      rw [List.take_append_of_le_length (by rw [strBytes_length]; exact h1), ih h (n / 256) h1, Nat.div_div_eq_div_mul, show k + 1 - h = (k - h) + 1 from by omega, Nat.pow_succ, Nat.mul_comm (256 ^ (k - h))]

theorem strBytes_drop : ∀ (k l n : Nat), l ≤ k → (strBytes k n).drop l = strBytes (k - l) n := by
  intro k
  induction k with
  | zero => intro l n hl; have : l = 0 := by omega
            subst this; rfl
  | succ k ih =>
    intro l n hl
    rcases Nat.lt_or_ge k l with h1 | h1
    · have : l = k + 1 := by omega
      subst this
      rw [List.drop_of_length_le (by rw [strBytes_length]; omega)]
      simp [strBytes]
    · rw [show k + 1 - l = (k - l) + 1 from by omega]
      simp only [strBytes]
      rw [List.drop_append_of_le_length (by rw [strBytes_length]; exact h1), ih l (n / 256) h1]

theorem strBytes_mod : ∀ (k n : Nat), strBytes k (n % 256 ^ k) = strBytes k n := by
  intro k
  induction k with
  | zero => intro n; rfl
  | succ k ih =>
    intro n
    simp only [strBytes]
    have e1 : n % 256 ^ (k + 1) / 256 = n / 256 % 256 ^ k := by
      rw [Nat.pow_succ, Nat.mul_comm, Nat.mod_mul_right_div_self]
    have e2 : n % 256 ^ (k + 1) % 256 = n % 256 := by
      rw [Nat.pow_succ]; exact Nat.mod_mul_left_mod _ _ _
    rw [e1, e2, ih]

theorem strBytes_sub (len n lo hi : Nat) (h1 : lo ≤ hi) (h2 : hi ≤ len) :
    ((strBytes len n).take hi).drop lo = strBytes (hi - lo) (n / 256 ^ (len - hi) % 256 ^ (hi - lo)) := by
  rw [strBytes_take _ _ _ h2, strBytes_drop _ _ _ h1, strBytes_mod]

theorem strBytes_get : ∀ (len n i : Nat), i < len → (strBytes len n)[i]? = some (UInt8.ofNat (strByte len n i)) := by
  intro len n i h
  have e := strBytes_sub len n i (i + 1) (by omega) (by omega)
  have hlen : i < (strBytes len n).length := by rw [strBytes_length]; exact h
  have : (strBytes len n)[i]? = (((strBytes len n).take (i + 1)).drop i)[0]? := by
    rw [List.getElem?_drop, List.getElem?_take]
    simp
  rw [this, e, show i + 1 - i = 1 from by omega]
  simp only [strBytes, strByte, List.nil_append, Nat.pow_one, List.getElem?_cons_zero]
  rw [show len - (i + 1) = len - 1 - i from by omega]
  simp

end Go.AM
namespace Go.AM
open Go.RowKit (Below)

/-- Two lists, member by member. -/
inductive F2 {α β : Type} (R : α → β → Prop) : List α → List β → Prop where
  | nil : F2 R [] []
  | cons {a : α} {b : β} {as : List α} {bs : List β} (h : R a b) (t : F2 R as bs) : F2 R (a :: as) (b :: bs)

structure Loc where
  blk : Nat
  base : Nat
  size : Nat

abbrev Rho := Nat → Option Loc

def isChain : AV → Bool
  | .nil => true
  | .cons _ t => isChain t
  | _ => false

/-- The abstract value and the value. -/
def VR (E : Nat → Value) (ρ : Rho) : AV → Value → Prop
  | .nil, v => v = .tuple ⟨[]⟩
  | .cons h t, v => ∃ x xs, v = .tuple ⟨x :: xs⟩ ∧ VR E ρ h x ∧ VR E ρ t (.tuple ⟨xs⟩)
  | .junk, v => v.oneCell' = true
  | .bool b, v => v = .bool b
  | .int k n, v => v = .int k n
  | .str len n, v => n < 256 ^ len ∧ v = .string ⟨⟨strBytes len n⟩⟩
  | .pnil, v => v = .pointer none
  | .ptr b o, v => ∃ l, ρ b = some l ∧ v = .pointer (some ⟨l.blk, l.base + o, none⟩)
  | .snil, v => v = .slice none 0 0
  | .slice b o len cap esz, v => ∃ l c, ρ b = some l ∧ v = .slice (some ⟨l.blk, l.base + o, none⟩) len c ∧
      (match esz with
       | 0 => c = cap
       | s + 1 => l.base + o + c * (s + 1) = l.size ∧ len ≤ c)
  | .eslice, v => ∃ a c, v = .slice (some a) 0 c
  | .mnil, v => v = .map none
  | .map b, v => ∃ l, ρ b = some l ∧ v = .map (some l.blk)
  | .fnil, v => v = .nilFunc
  | .func fn f c, v => ∃ xs ys, v = .func fn ⟨xs⟩ ⟨ys⟩ ∧ isChain f = true ∧ isChain c = true ∧ VR E ρ f (.tuple ⟨xs⟩) ∧ VR E ρ c (.tuple ⟨ys⟩)
  | .yield b, v => ∃ l, ρ b = some l ∧ v = .func (.yield l.blk) ⟨[]⟩ ⟨[]⟩
  | .inil, v => v = .nilIface
  | .iface t x, v => ∃ y, v = .iface t y ∧ VR E ρ x y
  | .agg l, v => ∃ xs, v = .agg ⟨xs⟩ ∧ isChain l = true ∧ VR E ρ l (.tuple ⟨xs⟩)
  | .tup l, v => isChain l = true ∧ VR E ρ l v
  | .ext i, v => v = E i

/-- A chain and a list of values. -/
def CL (E : Nat → Value) (ρ : Rho) (c : AV) (xs : List Value) : Prop := isChain c = true ∧ VR E ρ c (.tuple ⟨xs⟩)

section
variable {E : Nat → Value} {ρ : Rho}

theorem CL.nil_iff {xs : List Value} : CL E ρ .nil xs ↔ xs = [] := by
  simp [CL, isChain, VR]

theorem CL.cons_iff {h t : AV} {xs : List Value} : CL E ρ (.cons h t) xs ↔ ∃ x ys, xs = x :: ys ∧ VR E ρ h x ∧ CL E ρ t ys := by
  simp only [CL, isChain, VR]
  constructor
  · rintro ⟨hc, x, ys, he, h1, h2⟩
    simp only [Value.tuple.injEq, Array.mk.injEq] at he
    exact ⟨x, ys, he, h1, hc, h2⟩
  · rintro ⟨x, ys, rfl, h1, hc, h2⟩
    exact ⟨hc, x, ys, rfl, h1, h2⟩

theorem CL.nil : CL E ρ .nil [] := CL.nil_iff.2 rfl
theorem CL.cons {h t : AV} {x : Value} {xs : List Value} (h1 : VR E ρ h x) (h2 : CL E ρ t xs) : CL E ρ (.cons h t) (x :: xs) := CL.cons_iff.2 ⟨x, xs, rfl, h1, h2⟩

theorem CL.agg {c : AV} {xs : List Value} (h : CL E ρ c xs) : VR E ρ (.agg c) (.agg ⟨xs⟩) := ⟨xs, rfl, h.1, h.2⟩
theorem CL.tup {c : AV} {xs : List Value} (h : CL E ρ c xs) : VR E ρ (.tup c) (.tuple ⟨xs⟩) := ⟨h.1, h.2⟩

theorem VR.agg_iff {c : AV} {v : Value} : VR E ρ (.agg c) v ↔ ∃ xs, v = .agg ⟨xs⟩ ∧ CL E ρ c xs := Iff.rfl

theorem VR.chain_tuple : ∀ {c : AV} {v : Value}, isChain c = true → VR E ρ c v → ∃ xs, v = .tuple ⟨xs⟩ := by
  intro c v hc h
  cases c <;> simp [isChain] at hc
  · exact ⟨[], h⟩
  · obtain ⟨x, xs, rfl, _⟩ := h; exact ⟨_, rfl⟩

theorem VR.tup_iff {c : AV} {v : Value} : VR E ρ (.tup c) v ↔ ∃ xs, v = .tuple ⟨xs⟩ ∧ CL E ρ c xs := by
  constructor
  · rintro ⟨h1, h2⟩
    obtain ⟨xs, rfl⟩ := VR.chain_tuple h1 h2
    exact ⟨xs, rfl, h1, h2⟩
  · rintro ⟨xs, rfl, h1, h2⟩; exact ⟨h1, h2⟩

theorem VR.undef : VR E ρ AV.undef (Go.undef) := ⟨rfl, rfl⟩

/-! ### Chains -/
theorem CL.len : ∀ {c : AV} {xs : List Value}, CL E ρ c xs → c.len = xs.length := by
  intro c
  induction c with
  | nil => intro xs h; rw [CL.nil_iff] at h; subst h; rfl
  | cons a t _ ih => intro xs h; obtain ⟨x, ys, rfl, _, h2⟩ := CL.cons_iff.1 h; simp [AV.len, ih h2]
  | _ => intro xs h; simp [CL, isChain] at h

theorem CL.nth : ∀ {c : AV} {xs : List Value} {n : Nat} {a : AV}, CL E ρ c xs → c.nth n = some a → ∃ v, xs[n]? = some v ∧ VR E ρ a v := by
  intro c
  induction c with
  | nil => intro xs n a _ h; simp [AV.nth] at h
  | cons x t _ ih =>
    intro xs n a h hn
    obtain ⟨y, ys, rfl, h1, h2⟩ := CL.cons_iff.1 h
    cases n with
    | zero => simp [AV.nth] at hn; subst hn; exact ⟨y, rfl, h1⟩
    | succ n => simp only [AV.nth] at hn; obtain ⟨v, e, hv⟩ := ih h2 hn; exact ⟨v, by simpa using e, hv⟩
  | _ => intro xs n a h; simp [CL, isChain] at h

theorem CL.drop : ∀ {c : AV} {xs : List Value} {n : Nat}, CL E ρ c xs → CL E ρ (c.drop n) (xs.drop n) := by
  intro c
  induction c with
  | nil => intro xs n h; rw [CL.nil_iff] at h; subst h; simpa [AV.drop] using CL.nil
  | cons x t _ ih =>
    intro xs n h
    obtain ⟨y, ys, rfl, h1, h2⟩ := CL.cons_iff.1 h
    cases n with
    | zero => exact h
    | succ n => simpa [AV.drop] using ih h2
  | _ => intro xs n h; simp [CL, isChain] at h

theorem CL.take : ∀ {c : AV} {xs : List Value} {n : Nat}, CL E ρ c xs → CL E ρ (c.take n) (xs.take n) := by
  intro c
  induction c with
  | nil => intro xs n h; rw [CL.nil_iff] at h; subst h; simpa [AV.take] using CL.nil
  | cons x t _ ih =>
    intro xs n h
    obtain ⟨y, ys, rfl, h1, h2⟩ := CL.cons_iff.1 h
    cases n with
    | zero => simpa [AV.take] using CL.nil
    | succ n => simpa [AV.take] using CL.cons h1 (ih h2)
  | _ => intro xs n h; simp [CL, isChain] at h

theorem CL.append : ∀ {c d : AV} {xs ys : List Value}, CL E ρ c xs → CL E ρ d ys → CL E ρ (c.append d) (xs ++ ys) := by
  intro c
  induction c with
  | nil => intro d xs ys h hd; rw [CL.nil_iff] at h; subst h; simpa [AV.append] using hd
  | cons x t _ ih =>
    intro d xs ys h hd
    obtain ⟨y, zs, rfl, h1, h2⟩ := CL.cons_iff.1 h
    simpa [AV.append] using CL.cons h1 (ih h2 hd)
  | _ => intro d xs ys h; simp [CL, isChain] at h

theorem CL.ofList : ∀ {l : List AV} {xs : List Value}, F2 (VR E ρ) l xs → CL E ρ (AV.ofList l) xs := by
  intro l xs h
  induction h with
  | nil => exact CL.nil
  | cons h1 _ ih => exact CL.cons h1 ih

theorem CL.toList : ∀ {c : AV} {xs : List Value}, CL E ρ c xs → F2 (VR E ρ) c.toList xs := by
  intro c
  induction c with
  | nil => intro xs h; rw [CL.nil_iff] at h; subst h; exact .nil
  | cons x t _ ih => intro xs h; obtain ⟨y, zs, rfl, h1, h2⟩ := CL.cons_iff.1 h; exact .cons h1 (ih h2)
  | _ => intro xs h; simp [CL, isChain] at h

/-- 'xs' with 'vs' laid over it from 'off' on. -/
theorem CL.splice : ∀ {c v r : AV} {off : Nat} {xs vs : List Value}, CL E ρ c xs → CL E ρ v vs → c.splice off v = some r →
    off + vs.length ≤ xs.length → CL E ρ r (xs.take off ++ vs ++ xs.drop (off + vs.length)) := by
  intro c
  induction c with
  | nil =>
    intro v r off xs vs h hv hs hl
    rw [CL.nil_iff] at h; subst h
    have hvs : vs = [] := by simp at hl; exact hl.2
    subst hvs
    cases v <;> simp [AV.splice] at hs <;> first | (subst hs; simpa using CL.nil) | (obtain ⟨_, _, e, _⟩ := CL.cons_iff.1 hv; cases e)
  | cons x t _ ih =>
    intro v r off xs vs h hv hs hl
    obtain ⟨y, ys, rfl, h1, h2⟩ := CL.cons_iff.1 h
    cases off with
    | zero =>
      cases v with
      | nil =>
        rw [CL.nil_iff] at hv; subst hv
        simp [AV.splice] at hs; subst hs; simpa using h
      | cons a b =>
        obtain ⟨z, zs, rfl, g1, g2⟩ := CL.cons_iff.1 hv
        simp only [AV.splice] at hs
        split at hs
        · rename_i r' hr'
          simp at hs; subst hs
          have := ih h2 g2 hr' (by simp at hl ⊢; omega)
          simp only [List.take_zero, List.nil_append, Nat.zero_add] at this ⊢
          exact CL.cons g1 (by simpa using this)
        · simp at hs
      | _ => simp [CL, isChain] at hv
    | succ off =>
      cases v with
      | nil =>
        rw [CL.nil_iff] at hv; subst hv
        simp only [AV.splice] at hs
        split at hs
        · rename_i r' hr'
          simp at hs; subst hs
          have := ih h2 CL.nil hr' (by simp at hl ⊢; omega)
          simpa using CL.cons h1 this
        · simp at hs
      | cons a b =>
        simp only [AV.splice] at hs
        split at hs
        · rename_i r' hr'
          simp at hs; subst hs
          have := ih h2 hv hr' (by simp at hl ⊢; omega)
          rw [show off + 1 + vs.length = (off + vs.length) + 1 from by omega]
          simpa using CL.cons h1 this
        · simp at hs
      | _ => simp [CL, isChain] at hv
  | _ => intro v r off xs vs h; simp [CL, isChain] at h

/-! ### Cells -/
variable (hE : ∀ i, (E i).oneCell' = true)

include hE in
theorem VR.one {a : AV} {v : Value} (h : VR E ρ a v) (h1 : a.one = true) : v.oneCell' = true := by
  cases a <;> simp [AV.one] at h1 <;> simp only [VR] at h
  case junk => exact h
  case str => obtain ⟨_, rfl⟩ := h; rfl
  case ptr => obtain ⟨_, _, rfl⟩ := h; rfl
  case slice => obtain ⟨_, _, _, rfl, _⟩ := h; rfl
  case eslice => obtain ⟨_, _, rfl⟩ := h; rfl
  case map => obtain ⟨_, _, rfl⟩ := h; rfl
  case func => obtain ⟨_, _, rfl, _⟩ := h; rfl
  case yield => obtain ⟨_, _, rfl⟩ := h; rfl
  case iface => obtain ⟨_, rfl, _⟩ := h; rfl
  case ext => subst h; exact hE _
  all_goals (subst h; rfl)

include hE in
theorem CL.allOne : ∀ {c : AV} {xs : List Value}, CL E ρ c xs → c.allOne = true → ∀ x ∈ xs, x.oneCell' = true := by
  intro c
  induction c with
  | nil => intro xs h _; rw [CL.nil_iff] at h; subst h; simp
  | cons x t _ ih =>
    intro xs h ha
    obtain ⟨y, ys, rfl, h1, h2⟩ := CL.cons_iff.1 h
    simp only [AV.allOne, Bool.and_eq_true] at ha
    intro z hz
    cases hz with
    | head => exact VR.one hE h1 ha.1
    | tail _ hz => exact ih h2 ha.2 z hz
  | _ => intro xs h; simp [CL, isChain] at h

theorem cells_of_one {v : Value} (h : v.oneCell' = true) : v.cells = #[v] := by
  cases v <;> simp_all [Value.oneCell', Value.cells]

include hE in
theorem VR.cells {a : AV} {v : Value} (h : VR E ρ a v) : CL E ρ a.cells v.cells.toList := by
  by_cases h1 : a.one = true
  · have hv := VR.one hE h h1
    have : a.cells = .cons a .nil := by cases a <;> simp_all [AV.one, AV.cells]
    rw [this, cells_of_one hv]
    exact CL.cons h CL.nil
  · cases a <;> simp [AV.one] at h1
    case agg l => obtain ⟨xs, rfl, hc⟩ := VR.agg_iff.1 h; simpa [AV.cells, Value.cells] using hc
    case nil => have h' := h; simp only [VR] at h'; subst h'; exact CL.cons h CL.nil
    case cons => have h' := h; simp only [VR] at h'; obtain ⟨_, _, rfl, _⟩ := h'; exact CL.cons h CL.nil
    case tup l => obtain ⟨xs, rfl, hc⟩ := VR.tup_iff.1 h; exact CL.cons h CL.nil

/-! ### More places -/
def Rho.le (ρ ρ' : Rho) : Prop := ∀ b l, ρ b = some l → ρ' b = some l

theorem Rho.le_refl (ρ : Rho) : ρ.le ρ := fun _ _ h => h
theorem Rho.le_trans {a b c : Rho} (h : a.le b) (k : b.le c) : a.le c := fun _ _ e => k _ _ (h _ _ e)

theorem VR.mono {ρ' : Rho} (hle : ρ.le ρ') : ∀ {a : AV} {v : Value}, VR E ρ a v → VR E ρ' a v := by
  intro a
  induction a with
  | nil => intro v h; exact h
  | cons h t ih1 ih2 => intro v hv; obtain ⟨x, xs, rfl, h1, h2⟩ := hv; exact ⟨x, xs, rfl, ih1 h1, ih2 h2⟩
  | ptr b o => intro v h; obtain ⟨l, e, rfl⟩ := h; exact ⟨l, hle _ _ e, rfl⟩
  | slice b o len cap esz => intro v h; obtain ⟨l, c, e, rfl, hc⟩ := h; exact ⟨l, c, hle _ _ e, rfl, hc⟩
  | map b => intro v h; obtain ⟨l, e, rfl⟩ := h; exact ⟨l, hle _ _ e, rfl⟩
  | func fn f c ih1 ih2 => intro v h; obtain ⟨xs, ys, rfl, c1, c2, h1, h2⟩ := h; exact ⟨xs, ys, rfl, c1, c2, ih1 h1, ih2 h2⟩
  | yield b => intro v h; obtain ⟨l, e, rfl⟩ := h; exact ⟨l, hle _ _ e, rfl⟩
  | iface t x ih => intro v h; obtain ⟨y, rfl, h1⟩ := h; exact ⟨y, rfl, ih h1⟩
  | agg l ih => intro v h; obtain ⟨xs, rfl, c1, h1⟩ := h; exact ⟨xs, rfl, c1, ih h1⟩
  | tup l ih => intro v h; obtain ⟨c1, h1⟩ := h; exact ⟨c1, ih h1⟩
  | _ => intro v h; exact h

theorem CL.mono {ρ' : Rho} (hle : ρ.le ρ') {c : AV} {xs : List Value} (h : CL E ρ c xs) : CL E ρ' c xs := ⟨h.1, VR.mono hle h.2⟩

/-! ### Constants -/
theorem VR.strOf (l : List UInt8) : VR E ρ (strOf l) (.string ⟨⟨l⟩⟩) := ⟨strVal_lt l, by rw [strBytes_strVal]⟩

theorem VR.ofScalar {v : Value} {a : AV} (h : ofScalar v = some a) : VR E ρ a v := by
  unfold AM.ofScalar at h
  split at h <;> simp at h <;> subst h <;> first | rfl | exact VR.strOf _

theorem CL.ofScalars : ∀ {l : List Value} {c : AV}, ofScalars l = some c → CL E ρ c l := by
  intro l
  induction l with
  | nil => intro c h; simp [AM.ofScalars] at h; subst h; exact CL.nil
  | cons v vs ih =>
    intro c h
    simp only [AM.ofScalars] at h
    split at h
    · rename_i a ha
      split at h
      · rename_i l hl
        simp at h; subst h
        exact CL.cons (VR.ofScalar ha) (ih hl)
      · simp at h
    · simp at h

theorem VR.ofConst {v : Value} {a : AV} (h : ofConst v = some a) : VR E ρ a v := by
  unfold AM.ofConst at h
  split at h
  · rename_i b hb
    simp at h; subst h; exact VR.ofScalar hb
  · split at h
    · rename_i cs
      simp only [Option.map_eq_some_iff] at h
      obtain ⟨c, hc, rfl⟩ := h
      exact CL.agg (CL.ofScalars hc)
    · rename_i cs
      simp only [Option.map_eq_some_iff] at h
      obtain ⟨c, hc, rfl⟩ := h
      exact CL.tup (CL.ofScalars hc)
    · simp at h; subst h
      exact ⟨[], [], rfl, rfl, rfl, rfl, rfl⟩
    · simp only [Option.map_eq_some_iff] at h
      obtain ⟨c, hc, rfl⟩ := h
      exact ⟨_, rfl, VR.ofScalar hc⟩
    · simp at h

theorem VR.zeroOf {P : Program} {t : Nat} {z : AV} (h : zeroOf P t = some z) : ∃ i v, P.info? t = some i ∧ i.zero = some v ∧ VR E ρ z v := by
  unfold AM.zeroOf at h
  split at h
  · rename_i i hi
    split at h
    · rename_i v hv
      split at h
      · rename_i a ha
        simp at h; subst h
        exact ⟨i, v, hi, hv, VR.ofConst ha⟩
      · simp at h
    · simp at h
  · simp at h

include hE in
theorem CL.zeroCells {P : Program} {t : Nat} {z : AV} (h : zeroCells P t = some z) : ∃ i v, P.info? t = some i ∧ i.zero = some v ∧ CL E ρ z v.cells.toList := by
  unfold AM.zeroCells at h
  split at h
  · rename_i a ha
    simp at h; subst h
    obtain ⟨i, v, hi, hv, hr⟩ := VR.zeroOf (E := E) (ρ := ρ) ha
    exact ⟨i, v, hi, hv, VR.cells hE hr⟩
  · simp at h

theorem sizeOfT_some {P : Program} {t n : Nat} (h : sizeOfT P t = some n) : ∃ i, P.info? t = some i ∧ i.size = n := by
  unfold sizeOfT at h
  split at h
  · rename_i i hi; simp at h; exact ⟨i, hi, h⟩
  · simp at h
theorem bytesOfT_some {P : Program} {t n : Nat} (h : bytesOfT P t = some n) : ∃ i, P.info? t = some i ∧ i.bytes = n := by
  unfold bytesOfT at h
  split at h
  · rename_i i hi; simp at h; exact ⟨i, hi, h⟩
  · simp at h
end

end Go.AM
namespace Go.AM
open Go.RowKit (Below)

def roObj : AObj → Bool
  | .cells _ _ _ _ _ _ ro => ro
  | _ => false
def isFree : AObj → Bool
  | .free => true
  | _ => false

def EntR (E : Nat → Value) (ρ : Rho) (a : AV × AV × Nat) (e : MapEntry) : Prop := VR E ρ a.1 e.key ∧ VR E ρ a.2.1 e.val ∧ e.born = a.2.2

/-- The entries seen: in whatever order; the last, where it is known. -/
def SeenR (seen sn : List Nat) : Prop := (∀ n, n < BOGUS → (n ∈ sn ↔ n ∈ seen)) ∧ (sn = [] ↔ seen = []) ∧ (∀ x, x < BOGUS → seen.getLast? = some x → sn.getLast? = some x)

theorem SeenR.nil : SeenR [] [] := ⟨fun _ _ => Iff.rfl, Iff.rfl, fun _ _ h => h⟩
theorem SeenR.push {seen sn : List Nat} (h : SeenR seen sn) (b : Nat) : SeenR (seen ++ [b]) (sn ++ [b]) :=
  ⟨fun n hn => by simp [h.1 n hn], by simp, fun x _ hx => by simpa using hx⟩
theorem SeenR.empty {seen sn : List Nat} (h : SeenR seen sn) : sn.isEmpty = seen.isEmpty := by
  rw [Bool.eq_iff_iff]; simp only [List.isEmpty_iff]; exact h.2.1
theorem SeenR.any {seen sn : List Nat} (h : SeenR seen sn) {n : Nat} (hn : n < BOGUS) : sn.contains n = seen.any (Nat.beq n) := by
  rw [Bool.eq_iff_iff]
  simp only [List.contains_iff_mem, List.any_eq_true, Nat.beq_eq, h.1 n hn]
  constructor
  · intro hm; exact ⟨n, hm, rfl⟩
  · rintro ⟨x, hx, rfl⟩; exact hx

/-- The abstract object and the object. -/
def ObjR (E : Nat → Value) (ρ : Rho) : AObj → Loc → Obj → Prop
  | .free, _, _ => True
  | .cells row n e opn fz mk ro, l, o => ∃ c e' lo hi, o = .cells c e' (lo, hi) ∧ c.size = l.size ∧ l.base + n ≤ l.size ∧ (opn = false → l.base = 0 ∧ n = l.size) ∧
      (∀ i, i < n → ∃ v, c[l.base + i]? = some v ∧ VR E ρ (rowGet row i) v) ∧ (ro = false → e' = e ∧ lo ≤ hi ∧ ∀ p, lo ≤ p → p < hi → p < l.base + fz ∨ (mk = true ∧ l.size ≤ p))
  | .map es clock, _, o => ∃ ces, o = .map ⟨ces⟩ clock ∧ F2 (EntR E ρ) es ces
  | .sit len n pos, l, o => l.base = 0 ∧ n < 256 ^ len ∧ o = .stringIter ⟨⟨strBytes len n⟩⟩ pos
  | .mit m since seen last, l, o => l.base = 0 ∧ ∃ m' sn, o = .mapIter m' since ⟨sn⟩ last ∧ SeenR seen sn ∧ (match m with | none => m' = none | some b => ∃ l', ρ b = some l' ∧ m' = some l'.blk)
  | .loop st pending fn env size params assign body df, _, o => ∃ tmps dl, o = .loop ⟨st, pending, fn, tmps, ⟨params⟩, assign, body, dl⟩ ∧ tmps.size = size ∧ (∀ t, VR E ρ (envGet env t) (tmps.getD t Go.undef)) ∧
      ∃ l', ρ df = some l' ∧ dl = l'.blk
  | .dfr b, _, o => o = .deferred (if b then some [] else none)

theorem F2.imp {α β : Type} {R S : α → β → Prop} (hi : ∀ a b, R a b → S a b) {as : List α} {bs : List β} (h : F2 R as bs) : F2 S as bs := by
  induction h with
  | nil => exact .nil
  | cons h _ ih => exact .cons (hi _ _ h) ih
theorem F2.length {α β : Type} {R : α → β → Prop} {as : List α} {bs : List β} (h : F2 R as bs) : as.length = bs.length := by
  induction h with
  | nil => rfl
  | cons _ _ ih => simp [ih]
theorem F2.append {α β : Type} {R : α → β → Prop} {as as' : List α} {bs bs' : List β} (h : F2 R as bs) (h' : F2 R as' bs') : F2 R (as ++ as') (bs ++ bs') := by
  induction h with
  | nil => exact h'
  | cons h _ ih => exact .cons h ih
theorem F2.get {α β : Type} {R : α → β → Prop} {as : List α} {bs : List β} (h : F2 R as bs) : ∀ (i : Nat) (a : α), as[i]? = some a → ∃ b, bs[i]? = some b ∧ R a b := by
  induction h with
  | nil => intro i a hi; simp at hi
  | cons h _ ih =>
    intro i a hi
    cases i with
    | zero => simp at hi; subst hi; exact ⟨_, rfl, h⟩
    | succ i => simpa using ih i a (by simpa using hi)

variable {E : Nat → Value}

theorem ObjR.mono {ρ ρ' : Rho} (hle : ρ.le ρ') {a : AObj} {l : Loc} {o : Obj} (h : ObjR E ρ a l o) : ObjR E ρ' a l o := by
  cases a with
  | free => trivial
  | cells row n e opn fz mk ro =>
    obtain ⟨c, e', lo, hi, h1, h2, h3, h4, h5, h6⟩ := h
    exact ⟨c, e', lo, hi, h1, h2, h3, h4, fun i hi => let ⟨v, e, r⟩ := h5 i hi; ⟨v, e, VR.mono hle r⟩, h6⟩
  | map es clock =>
    obtain ⟨ces, h1, h2⟩ := h
    exact ⟨ces, h1, h2.imp fun a e h => ⟨VR.mono hle h.1, VR.mono hle h.2.1, h.2.2⟩⟩
  | sit len n pos => exact h
  | mit m since seen last =>
    obtain ⟨h0, m', sn, h1, hsn, h2⟩ := h
    refine ⟨h0, m', sn, h1, hsn, ?_⟩
    cases m with
    | none => exact h2
    | some b => obtain ⟨l', e, r⟩ := h2; exact ⟨l', hle _ _ e, r⟩
  | loop st pending fn env size params assign body df =>
    obtain ⟨tmps, dl, h1, h2, h3, l', e, r⟩ := h
    exact ⟨tmps, dl, h1, h2, fun t => VR.mono hle (h3 t), l', hle _ _ e, r⟩
  | dfr b => exact h

/-- The abstract heap and the world. 'G': the set of the package-level variables that are laid, at their own numbers; 'w0': the world in which all began. -/
structure HeapR (E : Nat → Value) (G : Nat) (w0 : World) (ρ : Rho) (h : Heap) (w : World) : Prop where
  obj : ∀ b l, ρ b = some l → ∃ o, w.heap[l.blk]? = some o ∧ ObjR E ρ (h.at b) l o
  sep : ∀ b b' l l', ρ b = some l → ρ b' = some l' → isFree (h.at b) = false → isFree (h.at b') = false → b ≠ b' → l.blk ≠ l'.blk
  dom : ∀ b l, ρ b = some l → b < h.next
  low : ∀ b l, ρ b = some l → roObj (h.at b) = false → isFree (h.at b) = false → w0.heap.size ≤ l.blk
  glob : ∀ g, Nat.testBit G g = true → ∃ l, ρ g = some l ∧ l.blk = g ∧ l.base = 0
  below : Below w0.heap.size w0 w
  lim : h.next ≤ LIMIT

/-- What a step may turn: it adds places; an object that has no place yet stays as it is. -/
structure Ext (ρ : Rho) (h : Heap) (ρ' : Rho) (h' : Heap) : Prop where
  le : ρ.le ρ'
  next : h.next ≤ h'.next
  ghost : ∀ b, b < h.next → ρ b = none → ρ' b = none ∧ h'.at b = h.at b

theorem Ext.refl (ρ : Rho) (h : Heap) : Ext ρ h ρ h := ⟨Rho.le_refl ρ, Nat.le_refl _, fun _ _ e => ⟨e, rfl⟩⟩
theorem Ext.trans {ρ ρ' ρ'' : Rho} {h h' h'' : Heap} (a : Ext ρ h ρ' h') (b : Ext ρ' h' ρ'' h'') : Ext ρ h ρ'' h'' :=
  ⟨Rho.le_trans a.le b.le, Nat.le_trans a.next b.next, fun x hx e => by
    obtain ⟨e1, e2⟩ := a.ghost x hx e
    obtain ⟨e3, e4⟩ := b.ghost x (Nat.lt_of_lt_of_le hx a.next) e1
    exact ⟨e3, e4.trans e2⟩⟩

section
variable {G : Nat} {w0 : World} {ρ : Rho} {h : Heap} {w : World}

theorem HeapR.drew (hr : HeapR E G w0 ρ h w) : HeapR E G w0 ρ h w.drew := ⟨hr.obj, hr.sep, hr.dom, hr.low, hr.glob, hr.below.drew, hr.lim⟩

theorem HeapR.lt (hr : HeapR E G w0 ρ h w) {b : Nat} {l : Loc} (e : ρ b = some l) : b < LIMIT := Nat.lt_of_lt_of_le (hr.dom b l e) hr.lim

theorem HeapR.size (hr : HeapR E G w0 ρ h w) : w0.heap.size ≤ w.heap.size := hr.below.size

theorem HeapR.blk_lt (hr : HeapR E G w0 ρ h w) {b : Nat} {l : Loc} (e : ρ b = some l) : l.blk < w.heap.size := by
  obtain ⟨o, ho, _⟩ := hr.obj b l e
  exact (Array.getElem?_eq_some_iff.1 ho).1

/-! ### A new object -/
def Rho.add (ρ : Rho) (b : Nat) (l : Loc) : Rho := fun x => if x = b then some l else ρ x

theorem Rho.le_add {ρ : Rho} {b : Nat} {l : Loc} (h : ρ b = none) : ρ.le (ρ.add b l) := fun x k e => by
  unfold Rho.add
  by_cases hx : x = b
  · subst hx; rw [h] at e; cases e
  · rw [if_neg hx]; exact e

theorem Rho.add_self {ρ : Rho} {b : Nat} {l : Loc} : ρ.add b l b = some l := if_pos rfl
theorem Rho.add_ne {ρ : Rho} {b x : Nat} {l : Loc} (h : x ≠ b) : ρ.add b l x = ρ x := if_neg h

theorem HeapR.fresh (hr : HeapR E G w0 ρ h w) : ρ h.next = none := by
  cases e : ρ h.next with
  | none => rfl
  | some l => exact absurd (hr.dom _ _ e) (Nat.lt_irrefl _)

theorem heap_alloc_self (w : World) (o : Obj) : (w.alloc o).heap[w.heap.size]? = some o := by
  show (w.heap.push o)[w.heap.size]? = some o
  simp
theorem heap_alloc_lt (w : World) (o : Obj) {k : Nat} (hk : k < w.heap.size) : (w.alloc o).heap[k]? = w.heap[k]? := Below.heap_alloc w o k hk

theorem HeapR.push (hr : HeapR E G w0 ρ h w) (hn : h.next < LIMIT) {a : AObj} {o : Obj} {base size : Nat}
    (ho : ObjR E (ρ.add h.next ⟨w.heap.size, base, size⟩) a ⟨w.heap.size, base, size⟩ o) :
    HeapR E G w0 (ρ.add h.next ⟨w.heap.size, base, size⟩) (h.push a) (w.alloc o) ∧ Ext ρ h (ρ.add h.next ⟨w.heap.size, base, size⟩) (h.push a) := by
  have hle : ρ.le (ρ.add h.next ⟨w.heap.size, base, size⟩) := Rho.le_add hr.fresh
  have hat : ∀ b, b ≠ h.next → (h.push a).at b = h.at b := fun b hb => by rw [Heap.at_push _ _ _ hn, if_neg hb]
  have hself : (h.push a).at h.next = a := by rw [Heap.at_push _ _ _ hn, if_pos rfl]
  refine ⟨⟨?_, ?_, ?_, ?_, ?_, ?_, ?_⟩, hle, by simp [Heap.next_push], ?_⟩
  · intro b l e
    by_cases hb : b = h.next
    · subst hb
      rw [Rho.add_self] at e
      simp only [Option.some.injEq] at e; subst e
      exact ⟨o, heap_alloc_self w o, by rw [hself]; exact ho⟩
    · rw [Rho.add_ne hb] at e
      obtain ⟨o', h1, h2⟩ := hr.obj b l e
      exact ⟨o', by rw [heap_alloc_lt _ _ (hr.blk_lt e)]; exact h1, by rw [hat b hb]; exact h2.mono hle⟩
  · intro b b' l l' e e' f f' hne
    by_cases hb : b = h.next
    · subst hb
      rw [Rho.add_self] at e
      simp only [Option.some.injEq] at e; subst e
      rw [Rho.add_ne (Ne.symm hne)] at e'
      have := hr.blk_lt e'
      simp only [ne_eq]; omega
    · by_cases hb' : b' = h.next
      · subst hb'
        rw [Rho.add_self] at e'
        simp only [Option.some.injEq] at e'; subst e'
        rw [Rho.add_ne hb] at e
        have := hr.blk_lt e
        simp only [ne_eq]; omega
      · rw [Rho.add_ne hb] at e; rw [Rho.add_ne hb'] at e'
        rw [hat b hb] at f; rw [hat b' hb'] at f'
        exact hr.sep b b' l l' e e' f f' hne
  · intro b l e
    rw [Heap.next_push]
    by_cases hb : b = h.next
    · omega
    · rw [Rho.add_ne hb] at e; have := hr.dom b l e; omega
  · intro b l e f f'
    by_cases hb : b = h.next
    · subst hb
      rw [Rho.add_self] at e
      simp only [Option.some.injEq] at e; subst e
      exact hr.size
    · rw [Rho.add_ne hb] at e; rw [hat b hb] at f f'; exact hr.low b l e f f'
  · intro g hg
    obtain ⟨l, e, h1⟩ := hr.glob g hg
    exact ⟨l, hle _ _ e, h1⟩
  · exact hr.below.alloc hr.size o
  · rw [Heap.next_push]; omega
  · intro b hb e
    exact ⟨by rw [Rho.add_ne (by omega)]; exact e, hat b (by omega)⟩

/-! ### An object that is turned -/
theorem HeapR.turn (hr : HeapR E G w0 ρ h w) {b : Nat} {l : Loc} (e : ρ b = some l) (hf : isFree (h.at b) = false) (hro : roObj (h.at b) = false)
    {a : AObj} {o : Obj} {w' : World} (hsz : w'.heap.size = w.heap.size) (hos : w'.os = w.os) (htp : w'.tape = w.tape) (hout : w'.output = w.output)
    (hself : w'.heap[l.blk]? = some o) (hoth : ∀ k, k ≠ l.blk → w'.heap[k]? = w.heap[k]?) (ho : ObjR E ρ a l o) :
    HeapR E G w0 ρ (h.put b a) w' ∧ Ext ρ h ρ (h.put b a) := by
  have hbl := hr.lt e
  have hat : ∀ x, x ≠ b → (h.put b a).at x = h.at x := fun x hx => by rw [Heap.at_put _ _ _ _ hbl, if_neg hx]
  have hs : (h.put b a).at b = a := by rw [Heap.at_put _ _ _ _ hbl, if_pos rfl]
  refine ⟨⟨?_, ?_, ?_, ?_, hr.glob, ?_, hr.lim⟩, Rho.le_refl _, Nat.le_refl _, ?_⟩
  · intro x k ex
    by_cases hx : x = b
    · subst hx
      rw [e] at ex; simp only [Option.some.injEq] at ex; subst ex
      exact ⟨o, hself, by rw [hs]; exact ho⟩
    · rw [hat x hx]
      obtain ⟨o', h1, h2⟩ := hr.obj x k ex
      by_cases hk : k.blk = l.blk
      · cases hfx : isFree (h.at x) with
        | false => exact absurd hk (hr.sep x b k l ex e hfx hf hx)
        | true =>
          refine ⟨o, by rw [hk]; exact hself, ?_⟩
          cases hax : h.at x <;> simp [isFree, hax] at hfx
          trivial
      · exact ⟨o', by rw [hoth _ hk]; exact h1, h2⟩
  · intro x y k k' ex ey fx fy hne
    have f1 : isFree (h.at x) = false := by
      by_cases hx : x = b
      · subst hx; exact hf
      · rw [hat x hx] at fx; exact fx
    have f2 : isFree (h.at y) = false := by
      by_cases hy : y = b
      · subst hy; exact hf
      · rw [hat y hy] at fy; exact fy
    exact hr.sep x y k k' ex ey f1 f2 hne
  · exact hr.dom
  · intro x k ex f1 f2
    by_cases hx : x = b
    · subst hx; exact hr.low _ _ ex hro hf
    · rw [hat x hx] at f1 f2; exact hr.low x k ex f1 f2
  · have hlow := hr.low b l e hro hf
    refine ⟨hos.trans hr.below.os, htp.trans hr.below.tape, hout.trans hr.below.output, by rw [hsz]; exact hr.below.size, fun k hk => ?_⟩
    rw [hoth k (by omega)]; exact hr.below.block k hk
  · intro x hx ex
    refine ⟨ex, hat x ?_⟩
    intro hxb; subst hxb; rw [e] at ex; cases ex

/-- An object is forgotten. -/
theorem HeapR.forget (hr : HeapR E G w0 ρ h w) {b : Nat} {l : Loc} (e : ρ b = some l) : HeapR E G w0 ρ (freeAt h b) w ∧ Ext ρ h ρ (freeAt h b) := by
  have hbl := hr.lt e
  have hat : ∀ x, x ≠ b → (freeAt h b).at x = h.at x := fun x hx => by unfold freeAt; rw [Heap.at_put _ _ _ _ hbl, if_neg hx]
  have hs : (freeAt h b).at b = .free := by unfold freeAt; rw [Heap.at_put _ _ _ _ hbl, if_pos rfl]
  refine ⟨⟨?_, ?_, hr.dom, ?_, hr.glob, hr.below, hr.lim⟩, Rho.le_refl _, Nat.le_refl _, ?_⟩
  · intro x k ex
    obtain ⟨o', h1, h2⟩ := hr.obj x k ex
    refine ⟨o', h1, ?_⟩
    by_cases hx : x = b
    · subst hx; rw [hs]; trivial
    · rw [hat x hx]; exact h2
  · intro x y k k' ex ey fx fy hne
    have hx : x ≠ b := fun hx => by subst hx; rw [hs] at fx; cases fx
    have hy : y ≠ b := fun hy => by subst hy; rw [hs] at fy; cases fy
    rw [hat x hx] at fx; rw [hat y hy] at fy
    exact hr.sep x y k k' ex ey fx fy hne
  · intro x k ex f1 f2
    have hx : x ≠ b := fun hx => by subst hx; rw [hs] at f2; cases f2
    rw [hat x hx] at f1 f2; exact hr.low x k ex f1 f2
  · intro x hx ex
    refine ⟨ex, hat x ?_⟩
    intro hxb; subst hxb; rw [e] at ex; cases ex

/-! ### Reading -/
theorem HeapR.cellsAny (hr : HeapR E G w0 ρ h w) {b : Nat} {l : Loc} (e : ρ b = some l) {row : T AV} {n el : Nat} {opn : Bool} {fz : Nat} {mk ro : Bool}
    (ha : h.at b = .cells row n el opn fz mk ro) : ∃ c e' lo hi, w.heap[l.blk]? = some (.cells c e' (lo, hi)) ∧ c.size = l.size ∧ l.base + n ≤ l.size ∧ (opn = false → l.base = 0 ∧ n = l.size) ∧
      (∀ i, i < n → ∃ v, c[l.base + i]? = some v ∧ VR E ρ (rowGet row i) v) := by
  obtain ⟨o, h1, h2⟩ := hr.obj b l e
  rw [ha] at h2
  obtain ⟨c, e', lo, hi, rfl, q1, q2, q3, q4, _⟩ := h2
  exact ⟨c, e', lo, hi, h1, q1, q2, q3, q4⟩

theorem HeapR.cellsAt (hr : HeapR E G w0 ρ h w) {b : Nat} {l : Loc} (e : ρ b = some l) {row : T AV} {n el : Nat} {opn : Bool} {fz : Nat} {mk : Bool}
    (ha : h.at b = .cells row n el opn fz mk false) : ∃ c lo hi, w.heap[l.blk]? = some (.cells c el (lo, hi)) ∧ c.size = l.size ∧ l.base + n ≤ l.size ∧ (opn = false → l.base = 0 ∧ n = l.size) ∧
      (∀ i, i < n → ∃ v, c[l.base + i]? = some v ∧ VR E ρ (rowGet row i) v) ∧ (lo ≤ hi ∧ ∀ p, lo ≤ p → p < hi → p < l.base + fz ∨ (mk = true ∧ l.size ≤ p)) := by
  obtain ⟨o, h1, h2⟩ := hr.obj b l e
  rw [ha] at h2
  obtain ⟨c, e', lo, hi, rfl, q1, q2, q3, q4, q5⟩ := h2
  obtain ⟨rfl, q6⟩ := q5 rfl
  exact ⟨c, lo, hi, h1, q1, q2, q3, q4, q6⟩

theorem cell_of_cells {w : World} {blk : Nat} {c : Array Value} {e : TypeId} {fr : Nat × Nat} (h : w.heap[blk]? = some (.cells c e fr)) (off : Nat) : w.cell? ⟨blk, off, none⟩ = c[off]? := by
  simp [World.cell?, h]

theorem readCell_sound (hr : HeapR E G w0 ρ h w) {b off : Nat} {l : Loc} (e : ρ b = some l) {a : AV} (ha : readCell h b off = some a) :
    ∃ v, w.cell? ⟨l.blk, l.base + off, none⟩ = some v ∧ VR E ρ a v := by
  unfold readCell at ha
  split at ha
  · rename_i row n el opn fz mk ro hat
    obtain ⟨c, e', lo, hi, h1, _, _, _, h5⟩ := hr.cellsAny e hat
    cases hb : Nat.blt off n <;> simp [hb] at ha
    subst ha
    obtain ⟨v, hv, hvr⟩ := h5 off (by simpa [Nat.blt_eq] using hb)
    exact ⟨v, by rw [cell_of_cells h1]; exact hv, hvr⟩
  · simp at ha

theorem rowRead_len (r : T AV) : ∀ (n i : Nat), (rowRead r n i).len = n
  | 0, _ => rfl
  | n + 1, i => by simp [rowRead, AV.len, rowRead_len r n]

theorem readCells_sound (hr : HeapR E G w0 ρ h w) {b off n : Nat} {l : Loc} (e : ρ b = some l) {a : AV} (ha : readCells h b off n = some a) :
    ∃ xs, CL E ρ a xs ∧ xs.length = n ∧ ∀ j v, xs[j]? = some v → w.cell? ((⟨l.blk, l.base + off, none⟩ : Addr).add j) = some v := by
  cases n with
  | zero => simp [readCells] at ha; subst ha; exact ⟨[], CL.nil, rfl, by simp⟩
  | succ n =>
    simp only [readCells] at ha
    split at ha
    · rename_i row m el opn fz mk ro hat
      obtain ⟨c, e', lo, hi, h1, _, _, _, h5⟩ := hr.cellsAny e hat
      cases hb : Nat.ble (off + (n + 1)) m <;> simp [hb] at ha
      subst ha
      have hle : off + (n + 1) ≤ m := by simpa [Nat.ble_eq] using hb
      have key : ∀ (k i : Nat), off + i + k ≤ m → ∃ xs, CL E ρ (rowRead row k (off + i)) xs ∧ xs.length = k ∧ ∀ j v, xs[j]? = some v → c[l.base + off + (i + j)]? = some v := by
        intro k
        induction k with
        | zero => intro i _; exact ⟨[], CL.nil, rfl, by simp⟩
        | succ k ih =>
          intro i hi
          obtain ⟨xs, g1, g2, g3⟩ := ih (i + 1) (by omega)
          obtain ⟨v, hv, hvr⟩ := h5 (off + i) (by omega)
          refine ⟨v :: xs, ?_, by simp [g2], ?_⟩
          · simp only [rowRead]
            exact CL.cons hvr (by rw [show off + i + 1 = off + (i + 1) from by omega]; exact g1)
          · intro j u hj
            cases j with
            | zero => simp at hj; subst hj; rw [show l.base + off + (i + 0) = l.base + (off + i) from by omega]; exact hv
            | succ j => rw [show i + (j + 1) = i + 1 + j from by omega]; exact g3 j u (by simpa using hj)
      obtain ⟨xs, g1, g2, g3⟩ := key (n + 1) 0 (by omega)
      refine ⟨xs, by simpa using g1, g2, fun j v hj => ?_⟩
      have := g3 j v hj
      have hadd : (⟨l.blk, l.base + off, none⟩ : Addr).add j = ⟨l.blk, l.base + off + j, none⟩ := by
        unfold Addr.add
        by_cases hj0 : j = 0
        · subst hj0; simp
        · rw [if_neg hj0]
      rw [hadd, cell_of_cells h1]
      simpa using this
    · simp at ha

theorem addr_add (blk off j : Nat) : (⟨blk, off, none⟩ : Addr).add j = ⟨blk, off + j, none⟩ := by
  unfold Addr.add
  by_cases hj0 : j = 0
  · subst hj0; simp
  · rw [if_neg hj0]
end

end Go.AM
namespace Go.AM
open Go.RowKit (Below)
variable {E : Nat → Value} {G : Nat} {w0 : World} {ρ : Rho} {h : Heap} {w : World} {P : Program}

/-! ### Types at run time -/
theorem run_underlying_some {t : TypeId} {d : TypeDesc} (hd : P.underlying t = some d) (w : World) : (underlying t).run P w = .ok d w := by
  simp [underlying, hd]
theorem run_typeInfo_some {t : TypeId} {i : TypeInfo} (hi : P.info? t = some i) (w : World) : (typeInfo t).run P w = .ok i w := by
  simp [typeInfo, hi]
theorem run_sizeOf_some {t : TypeId} {i : TypeInfo} (hi : P.info? t = some i) (w : World) : (sizeOf t).run P w = .ok i.size w := by
  simp [sizeOf, run_typeInfo_some hi]
theorem run_zeroValue_some {t : TypeId} {i : TypeInfo} {z : Value} (hi : P.info? t = some i) (hz : i.zero = some z) (w : World) : (zeroValue t).run P w = .ok z w := by
  simp [zeroValue, run_typeInfo_some hi, hz]
theorem run_isAgg_some {t : TypeId} {d : TypeDesc} (hd : P.underlying t = some d) (w : World) : (isAgg t).run P w = .ok (isAggD d) w := by
  unfold isAgg
  simp only [Sem.run_bind, run_underlying_some hd, Result.andThen_ok]
  cases d <;> rfl

/-! ### Loads -/
theorem run_load_cell {a : Addr} {v : Value} (hc : w.cell? a = some v) : (load a).run P w = .ok v w := by
  simp [run_load, hc]

theorem loadVar_sound (hr : HeapR E G w0 ρ h w) {t b off : Nat} {l : Loc} (e : ρ b = some l) {a : AV} (ha : loadVarA P t h b off = some a) :
    ∃ v, (loadVar t ⟨l.blk, l.base + off, none⟩).run P w = .ok v w ∧ VR E ρ a v := by
  unfold loadVarA at ha
  split at ha
  · rename_i d hd
    cases hag : isAggD d with
    | true =>
      rw [hag] at ha
      simp only [cond_true] at ha
      split at ha
      · rename_i n hn
        obtain ⟨i, hi, rfl⟩ := sizeOfT_some hn
        split at ha
        · rename_i c hc
          simp at ha; subst ha
          obtain ⟨xs, h1, h2, h3⟩ := readCells_sound hr e hc
          refine ⟨.agg ⟨xs⟩, ?_, h1.agg⟩
          unfold loadVar
          simp only [Sem.run_bind, run_isAgg_some hd, hag, Result.andThen_ok, if_true, run_sizeOf_some hi]
          rw [← h2, run_loadCells_list _ _ _ h3]
          simp
        · simp at ha
      · simp at ha
    | false =>
      rw [hag] at ha
      simp only [cond_false] at ha
      obtain ⟨v, hv, hvr⟩ := readCell_sound hr e ha
      refine ⟨v, ?_, hvr⟩
      unfold loadVar
      simp only [Sem.run_bind, run_isAgg_some hd, hag, Result.andThen_ok, Bool.false_eq_true, if_false, run_load_cell hv]
  · simp at ha

/-! ### Stores -/
/-- w' is w with one block turned. -/
structure Turned (blk : Nat) (w w' : World) : Prop where
  os : w'.os = w.os
  tape : w'.tape = w.tape
  output : w'.output = w.output
  size : w'.heap.size = w.heap.size
  other : ∀ k, k ≠ blk → w'.heap[k]? = w.heap[k]?

theorem Turned.refl (blk : Nat) (w : World) : Turned blk w w := ⟨rfl, rfl, rfl, rfl, fun _ _ => rfl⟩
theorem Turned.trans {blk : Nat} {a b c : World} (h : Turned blk a b) (k : Turned blk b c) : Turned blk a c :=
  ⟨k.os.trans h.os, k.tape.trans h.tape, k.output.trans h.output, k.size.trans h.size, fun j hj => (k.other j hj).trans (h.other j hj)⟩

theorem heap_setCell_self {blk off : Nat} {c : Array Value} {e : TypeId} {fr : Nat × Nat} (hc : w.heap[blk]? = some (.cells c e fr)) (v : Value) :
    (w.setCell ⟨blk, off, none⟩ v).heap[blk]? = some (.cells (c.setIfInBounds off v) e fr) := by
  show (w.heap.modify blk _)[blk]? = _
  rw [Array.getElem?_modify, if_pos rfl, hc]
  rfl

theorem setCell_turned (blk off : Nat) (v : Value) : Turned blk w (w.setCell ⟨blk, off, none⟩ v) :=
  ⟨rfl, rfl, rfl, by simp [World.setCell], fun k hk => Below.heap_setCell w _ v k hk⟩
where
  Below.heap_setCell (w : World) (a : Addr) (u : Value) (k : Nat) (h : k ≠ a.block) : (w.setCell a u).heap[k]? = w.heap[k]? := RowKit.Below.heap_setCell w a u k h

theorem run_store_cell {blk off : Nat} {c : Array Value} {e : TypeId} {lo hi : Nat} (hc : w.heap[blk]? = some (.cells c e (lo, hi))) (hoff : off < c.size) (hfr : ¬ (lo ≤ off ∧ off < hi))
    {v : Value} (hv : v.oneCell' = true) : (store ⟨blk, off, none⟩ v).run P w = .ok () (w.setCell ⟨blk, off, none⟩ v) := by
  rw [run_store P w _ _ _ hv]
  have h1 : w.cell? ⟨blk, off, none⟩ = some c[off] := by rw [cell_of_cells hc]; simp [hoff]
  have h2 : w.frozen? ⟨blk, off, none⟩ = false := by
    simp only [World.frozen?, hc]
    simpa using hfr
  simp [h1, h2]

theorem run_storeCells {blk off : Nat} {e : TypeId} {lo hi : Nat} : ∀ (vs : List Value) (i : Nat) (c : Array Value) (w : World), w.heap[blk]? = some (.cells c e (lo, hi)) →
    off + i + vs.length ≤ c.size → (∀ p, off + i ≤ p → p < off + i + vs.length → ¬ (lo ≤ p ∧ p < hi)) → (∀ v ∈ vs, v.oneCell' = true) →
    ∃ c' w', (storeCells ⟨blk, off, none⟩ vs i).run P w = .ok () w' ∧ Turned blk w w' ∧ w'.heap[blk]? = some (.cells c' e (lo, hi)) ∧ c'.size = c.size ∧
      ∀ p, c'[p]? = if off + i ≤ p ∧ p < off + i + vs.length then vs[p - (off + i)]? else c[p]? := by
  intro vs
  induction vs with
  | nil =>
    intro i c w hc _ _ _
    exact ⟨c, w, rfl, .refl _ _, hc, rfl, fun p => by rw [if_neg (by simp)]⟩
  | cons v vs ih =>
    intro i c w hc hle hfr hone
    simp only [List.length_cons] at hle hfr
    have hst := run_store_cell (P := P) hc (off := off + i) (by omega) (hfr (off + i) (by omega) (by omega)) (hone v (by simp))
    have hc1 := heap_setCell_self hc (off := off + i) v
    obtain ⟨c', w', g1, g2, g3, g4, g5⟩ := ih (i + 1) _ _ hc1 (by simp; omega) (fun p h1 h2 => hfr p (by omega) (by omega)) (fun u hu => hone u (by simp [hu]))
    refine ⟨c', w', ?_, (setCell_turned blk (off + i) v).trans g2, g3, by rw [g4]; simp, ?_⟩
    · simp only [storeCells, Sem.run_bind]
      rw [addr_add, hst]
      simpa using g1
    · intro p
      rw [g5 p]
      simp only [List.length_cons]
      by_cases hp : p = off + i
      · subst hp
        rw [if_neg (by omega), if_pos (by omega)]
        simp [show off + i < c.size from by omega]
      · by_cases hp2 : off + (i + 1) ≤ p ∧ p < off + (i + 1) + vs.length
        · rw [if_pos hp2, if_pos (by omega)]
          rw [show p - (off + i) = (p - (off + (i + 1))) + 1 from by omega]
          simp
        · rw [if_neg hp2, if_neg (by omega), Array.getElem?_setIfInBounds_ne (by omega)]

theorem rowLay_get : ∀ (c : AV) (i : Nat) (r : T AV) (p : Nat), i + c.len ≤ LIMIT → rowGet (rowLay c i r) p = if i ≤ p ∧ p < i + c.len then (c.nth (p - i)).getD .junk else rowGet r p := by
  intro c
  induction c with
  | cons a t _ ih =>
    intro i r p hl
    have hlen : (AV.cons a t).len = t.len + 1 := rfl
    have hstep : rowLay (.cons a t) i r = rowLay t (i + 1) (rowSet r i a) := rfl
    rw [hstep, ih (i + 1) _ p (by omega), rowGet_set _ _ _ _ (by omega)]
    by_cases hp : p = i
    · subst hp
      rw [if_neg (by omega), if_pos rfl, if_pos (by omega)]
      simp [AV.nth]
    · by_cases hp2 : i + 1 ≤ p ∧ p < i + 1 + t.len
      · rw [if_pos hp2, if_pos (by omega), show p - i = (p - (i + 1)) + 1 from by omega]
        simp [AV.nth]
      · rw [if_neg hp2, if_neg hp, if_neg (by omega)]
  | _ => intro i r p _; exact (if_neg (fun hh => by have := hh.1; have := hh.2; simp only [AV.len] at *; omega)).symm

theorem CL.nth_some {c : AV} {xs : List Value} (hc : CL E ρ c xs) {i : Nat} {v : Value} (hi : xs[i]? = some v) : ∃ a, c.nth i = some a ∧ VR E ρ a v := by
  have key : ∀ (c : AV) (xs : List Value) (i : Nat), CL E ρ c xs → xs[i]? = some v → ∃ a, c.nth i = some a ∧ VR E ρ a v := by
    intro c
    induction c with
    | nil => intro xs i h hi; rw [CL.nil_iff] at h; subst h; simp at hi
    | cons x t _ ih =>
      intro xs i h hi
      obtain ⟨y, ys, rfl, h1, h2⟩ := CL.cons_iff.1 h
      cases i with
      | zero => simp at hi; subst hi; exact ⟨x, rfl, h1⟩
      | succ i => simpa [AV.nth] using ih ys i h2 (by simpa using hi)
    | _ => intro xs i h; simp [CL, isChain] at h
  exact key c xs i hc hi

theorem and4 {a b : Bool} : (a && b) = true ↔ a = true ∧ b = true := by simp

/-- A chain is stored into a row that may be written. -/
theorem storeAt_sound (hE : ∀ i, (E i).oneCell' = true) (hr : HeapR E G w0 ρ h w) {b off : Nat} {l : Loc} (e : ρ b = some l) {c : AV} {xs : List Value} (hc : CL E ρ c xs) {h' : Heap} (hs : storeAt h b off c = some h') :
    ∃ w', (storeCells ⟨l.blk, l.base + off, none⟩ xs).run P w = .ok () w' ∧ HeapR E G w0 ρ h' w' ∧ Ext ρ h ρ h' := by
  have hnil : c = .nil → ∃ w', (storeCells ⟨l.blk, l.base + off, none⟩ xs).run P w = .ok () w' ∧ HeapR E G w0 ρ h' w' ∧ Ext ρ h ρ h' := by
    intro hcn
    subst hcn
    rw [CL.nil_iff] at hc; subst hc
    simp [storeAt] at hs; subst hs
    exact ⟨w, rfl, hr, Ext.refl _ _⟩
  cases hcc : c with
  | nil => exact hnil hcc
  | cons a t =>
    rw [hcc] at hs hc
    simp only [storeAt] at hs
    split at hs
    · rename_i row n el opn fz mk ro hat
      cases hb : (!ro && Nat.ble fz off && Nat.ble (off + (AV.cons a t).len) n && Nat.ble (off + (AV.cons a t).len) LIMIT && (AV.cons a t).allOne) <;> rw [hb] at hs
      · simp at hs
      simp only [Bool.and_eq_true, Bool.not_eq_true', Nat.ble_eq] at hb
      obtain ⟨⟨⟨⟨b1, b3⟩, b4⟩, b5⟩, b6⟩ := hb
      subst b1
      obtain ⟨cc, lo, hi, g1, g2, g3, g4, g5, g6⟩ := hr.cellsAt e hat
      simp only [cond_true, Option.some.injEq, T.seq_eq] at hs
      subst hs
      have hlen := hc.len
      have hone := CL.allOne hE hc b6
      obtain ⟨c', w', k1, k2, k3, k4, k5⟩ := run_storeCells (P := P) (blk := l.blk) (off := l.base + off) (e := el) (lo := lo) (hi := hi) xs 0 cc w g1 (by omega)
        (fun p h1 h2 hp => by
          rcases g6.2 p hp.1 hp.2 with h3 | ⟨_, h3⟩
          · omega
          · omega) hone
      refine ⟨w', k1, ?_⟩
      refine hr.turn e (by rw [hat]; rfl) (by rw [hat]; rfl) k2.size k2.os k2.tape k2.output k3 k2.other ?_
      refine ⟨c', el, lo, hi, rfl, by rw [k4, g2], g3, g4, ?_, fun _ => ⟨rfl, g6⟩⟩
      intro i hi'
      rw [k5, rowLay_get _ _ _ _ b5]
      simp only [Nat.add_zero]
      by_cases hin : off ≤ i ∧ i < off + (AV.cons a t).len
      · rw [if_pos hin, if_pos (by omega)]
        have hlt : i - off < xs.length := by omega
        obtain ⟨a', ha', hv⟩ := hc.nth_some (i := i - off) (v := xs[i - off]) (by simp [hlt])
        refine ⟨xs[i - off], by rw [show l.base + i - (l.base + off) = i - off from by omega]; simp [hlt], ?_⟩
        rw [ha']; exact hv
      · rw [if_neg hin, if_neg (by omega)]
        exact g5 i hi'
    · simp at hs
  | _ => rw [hcc] at hc; simp [CL, isChain] at hc

theorem storeVar_sound (hE : ∀ i, (E i).oneCell' = true) (hr : HeapR E G w0 ρ h w) {t b off : Nat} {l : Loc} (e : ρ b = some l) {a : AV} {v : Value} (hv : VR E ρ a v) {h' : Heap} (hs : storeVarA P t h b off a = some h') :
    ∃ w', (storeVar t ⟨l.blk, l.base + off, none⟩ v).run P w = .ok () w' ∧ HeapR E G w0 ρ h' w' ∧ Ext ρ h ρ h' := by
  unfold storeVarA at hs
  split at hs
  · rename_i n hn
    obtain ⟨i, hi, rfl⟩ := sizeOfT_some hn
    cases hb : (Nat.beq a.cells.len i.size && a.cells.allOne) <;> rw [hb] at hs
    · simp at hs
    simp only [Bool.and_eq_true, Nat.beq_eq] at hb
    simp only [cond_true] at hs
    have hc := VR.cells hE hv
    obtain ⟨w', k1, k2, k3⟩ := storeAt_sound (P := P) hE hr e hc hs
    refine ⟨w', ?_, k2, k3⟩
    unfold storeVar
    have hsz : v.cells.size = i.size := by rw [← hb.1, hc.len]; simp
    simp only [Sem.run_bind, run_sizeOf_some hi, Result.andThen_ok, hsz, ne_eq, not_true_eq_false, if_false]
    simpa using k1
  · simp at hs

/-! ### A new row -/
theorem newCells_some {c : AV} {el : Nat} {opn : Bool} {fz : Nat} {mk : Bool} {o : AObj} (hn : newCells c el opn fz mk = some o) :
    c.len ≤ LIMIT ∧ c.allOne = true ∧ o = .cells (rowLay c 0 .leaf) c.len el opn fz mk false := by
  unfold newCells at hn
  cases hb : (Nat.ble c.len LIMIT && c.allOne) <;> rw [hb] at hn
  · simp at hn
  simp only [Bool.and_eq_true, Nat.ble_eq] at hb
  simp only [cond_true, Option.some.injEq, T.seq_eq] at hn
  exact ⟨hb.1, hb.2, hn.symm⟩

/-- A row of cells that begins with the chain's. -/
theorem newCells_rel {c : AV} {el : Nat} {opn : Bool} {fz : Nat} {mk : Bool} {o : AObj} (hn : newCells c el opn fz mk = some o) {xs ys : List Value} (hc : CL E ρ c xs)
    (hopn : opn = false → ys = []) {blk : Nat} {lo hi : Nat} (hlh : lo ≤ hi) (hfr : ∀ p, lo ≤ p → p < hi → p < fz ∨ (mk = true ∧ (xs ++ ys).length ≤ p)) :
    ObjR E ρ o ⟨blk, 0, (xs ++ ys).length⟩ (.cells ⟨xs ++ ys⟩ el (lo, hi)) := by
  obtain ⟨h1, h2, rfl⟩ := newCells_some hn
  have hlen := hc.len
  refine ⟨⟨xs ++ ys⟩, el, lo, hi, rfl, by simp, by simp; omega, fun ho => ⟨rfl, ?_⟩, ?_, fun _ => ⟨rfl, hlh, ?_⟩⟩
  · rw [hopn ho]; simp [hlen]
  · intro i hi'
    rw [rowLay_get _ _ _ _ (by omega), if_pos (by omega)]
    obtain ⟨a, ha, hv⟩ := hc.nth_some (i := i) (v := xs[i]'(by omega)) (by simp)
    refine ⟨xs[i]'(by omega), ?_, by simp [ha]; exact hv⟩
    simp only [Nat.zero_add, List.getElem?_toArray]
    rw [List.getElem?_append_left (by omega)]
    simp
  · intro p hp1 hp2
    simpa using hfr p hp1 hp2

end Go.AM

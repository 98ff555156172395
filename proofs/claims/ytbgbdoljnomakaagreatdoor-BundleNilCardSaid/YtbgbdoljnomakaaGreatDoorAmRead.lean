/- Each reading operation of the abstract machine answers as the model's. -/
import Derived.Test.YtbgbdoljnomakaaGreatDoorAmRel
import Derived.Laws.Strings
import Derived.Laws.StructEq
import Derived.ChangeKeysEq
import Derived.MapKept
import Derived.Laws.Tables
namespace Go.AM
open Go.RowKit (Below)

theorem F2.inv_nil {α β : Type} {R : α → β → Prop} {as : List α} (h : F2 R as []) : as = [] := by cases h; rfl
theorem F2.inv_cons {α β : Type} {R : α → β → Prop} {as : List α} {b : β} {bs : List β} (h : F2 R as (b :: bs)) : ∃ a as', as = a :: as' ∧ R a b ∧ F2 R as' bs := by
  cases h with
  | cons h t => exact ⟨_, _, rfl, h, t⟩
theorem F2.inv_one {α β : Type} {R : α → β → Prop} {as : List α} {b : β} (h : F2 R as [b]) : ∃ a, as = [a] ∧ R a b := by
  obtain ⟨a, as', rfl, h1, h2⟩ := h.inv_cons
  rw [h2.inv_nil]; exact ⟨a, rfl, h1⟩
theorem F2.inv_two {α β : Type} {R : α → β → Prop} {as : List α} {b c : β} (h : F2 R as [b, c]) : ∃ a d, as = [a, d] ∧ R a b ∧ R d c := by
  obtain ⟨a, as', rfl, h1, h2⟩ := h.inv_cons
  obtain ⟨d, rfl, h3⟩ := h2.inv_one
  exact ⟨a, d, rfl, h1, h3⟩
theorem F2.inv_three {α β : Type} {R : α → β → Prop} {as : List α} {b c d : β} (h : F2 R as [b, c, d]) : ∃ x y z, as = [x, y, z] ∧ R x b ∧ R y c ∧ R z d := by
  obtain ⟨a, as', rfl, h1, h2⟩ := h.inv_cons
  obtain ⟨d, e, rfl, h3, h4⟩ := h2.inv_two
  exact ⟨a, d, e, rfl, h1, h3, h4⟩

/-! ### Numbers -/
theorem wrap_of_range (k : IntKind) (n : Int) (h : k.min ≤ n ∧ n ≤ k.max) : k.wrap n = n := by
  obtain ⟨h1, h2⟩ := h
  cases k <;> simp [IntKind.min, IntKind.max, IntKind.signed, IntKind.bits, IntKind.wrap] at * <;> (try split) <;> omega

theorem cond_same {α : Type} (b : Bool) (x y : α) (h : b = true → x = y) : (bif b then x else y) = y := by
  cases b with
  | true => exact h rfl
  | false => rfl

theorem wrapTo_eq (k : IntKind) (n : Int) : wrapTo k n = k.wrap n := by
  cases k
  case i64 =>
    cases n with
    | ofNat m =>
      refine cond_same _ _ _ fun hb => ?_
      rw [wrap_of_range]
      simp [IntKind.min, IntKind.max, IntKind.signed, IntKind.bits]
      simp only [Nat.ble_eq] at hb
      omega
    | negSucc m =>
      refine cond_same _ _ _ fun hb => ?_
      rw [wrap_of_range]
      simp [IntKind.min, IntKind.max, IntKind.signed, IntKind.bits]
      simp only [Nat.ble_eq] at hb
      omega
  case u64 =>
    cases n with
    | ofNat m => simp [wrapTo, IntKind.wrap, IntKind.signed, IntKind.bits]
    | negSucc m => rfl
  case u8 =>
    cases n with
    | ofNat m => simp [wrapTo, IntKind.wrap, IntKind.signed, IntKind.bits]
    | negSucc m => rfl
  all_goals rfl

theorem intEq_eq (a b : Int) : intEq a b = (a == b) := by
  rw [Bool.eq_iff_iff]
  cases a <;> cases b <;> simp [intEq, Nat.beq_eq] <;> omega

theorem intLt_eq (a b : Int) : intLt a b = decide (a < b) := by
  rw [Bool.eq_iff_iff]
  cases a <;> cases b <;> simp [intLt, Nat.blt_eq] <;> omega

theorem bv_nat {n x : Nat} (h : x < 2 ^ n) : (BitVec.ofInt n (Int.ofNat x)).toNat = x := by
  rw [BitVec.toNat_ofInt]
  have e : (Int.ofNat x) % ((2 ^ n : Nat) : Int) = (x : Int) := by
    show ((x : Nat) : Int) % ((2 ^ n : Nat) : Int) = (x : Int)
    rw [← Int.natCast_emod, Nat.mod_eq_of_lt h]
  rw [e]
  exact Int.toNat_natCast x

theorem ofNat_and {n x y : Nat} (hx : x < 2 ^ n) (hy : y < 2 ^ n) : (BitVec.ofInt n (Int.ofNat x) &&& BitVec.ofInt n (Int.ofNat y)).toNat = Nat.land x y := by
  rw [BitVec.toNat_and, bv_nat hx, bv_nat hy]; rfl
theorem ofNat_or {n x y : Nat} (hx : x < 2 ^ n) (hy : y < 2 ^ n) : (BitVec.ofInt n (Int.ofNat x) ||| BitVec.ofInt n (Int.ofNat y)).toNat = Nat.lor x y := by
  rw [BitVec.toNat_or, bv_nat hx, bv_nat hy]; rfl
theorem ofNat_xor {n x y : Nat} (hx : x < 2 ^ n) (hy : y < 2 ^ n) : (BitVec.ofInt n (Int.ofNat x) ^^^ BitVec.ofInt n (Int.ofNat y)).toNat = Nat.xor x y := by
  rw [BitVec.toNat_xor, bv_nat hx, bv_nat hy]; rfl

variable {E : Nat → Value} {G : Nat} {w0 : World} {ρ : Rho} {h : Heap} {w : World} {P : Program}

theorem intOp_sound {op : BinOp} {k : IntKind} {a b : Int} {r : AV} (hr : intOp op k a b = some r) (t : TypeId) : ∃ v, (binOp op t (.int k a) (.int k b)).run P w = .ok v w ∧ VR E ρ r v := by
  have arith : ∀ op, binOp op t (.int k a) (.int k b) = if k ≠ k then stuck "BinOp: operands of different kinds" else
    match op with
    | .add | .sub | .mul => Op.intArith op k a b
    | .quo | .rem => Op.intDiv op k a b
    | .and | .or | .xor | .andNot => Op.intBits op k a b
    | .shl | .shr => Op.shift op k a k b
    | _ => Op.intCmp op a b := by
    intro op
    cases op <;> simp [binOp]
  rw [arith, if_neg (by simp)]
  cases op <;> simp only [intOp] at hr
  case add => simp only [Option.some.injEq] at hr; subst hr; exact ⟨.int k (k.wrap (a + b)), rfl, by rw [mkInt_eq, wrapTo_eq]; rfl⟩
  case sub => simp only [Option.some.injEq] at hr; subst hr; exact ⟨.int k (k.wrap (a - b)), rfl, by rw [mkInt_eq, wrapTo_eq]; rfl⟩
  case mul => simp only [Option.some.injEq] at hr; subst hr; exact ⟨.int k (k.wrap (a * b)), rfl, by rw [mkInt_eq, wrapTo_eq]; rfl⟩
  case quo =>
    rw [intEq_eq] at hr
    cases hb : (b == 0) <;> rw [hb] at hr <;> simp only [cond_true, cond_false, Option.some.injEq, reduceCtorEq] at hr
    subst hr
    have : b ≠ 0 := by simpa using hb
    exact ⟨.int k (k.wrap (a.tdiv b)), by simp [Op.intDiv, this], by rw [mkInt_eq, wrapTo_eq]; rfl⟩
  case rem =>
    rw [intEq_eq] at hr
    cases hb : (b == 0) <;> rw [hb] at hr <;> simp only [cond_true, cond_false, Option.some.injEq, reduceCtorEq] at hr
    subst hr
    have : b ≠ 0 := by simpa using hb
    exact ⟨.int k (a.tmod b), by simp [Op.intDiv, this], by rw [mkInt_eq]; rfl⟩
  case eql => simp only [Option.some.injEq] at hr; subst hr; exact ⟨.bool (a == b), rfl, by rw [mkBool_eq, intEq_eq]; rfl⟩
  case neq => simp only [Option.some.injEq] at hr; subst hr; exact ⟨.bool (a != b), rfl, by rw [mkBool_eq, intEq_eq]; rfl⟩
  case lss => simp only [Option.some.injEq] at hr; subst hr; exact ⟨.bool (decide (a < b)), rfl, by rw [mkBool_eq, intLt_eq]; rfl⟩
  case leq => simp only [Option.some.injEq] at hr; subst hr; exact ⟨.bool (decide (a ≤ b)), rfl, by rw [mkBool_eq, intLt_eq]; simp only [VR]; congr 1; rw [Bool.eq_iff_iff]; simp⟩
  case gtr => simp only [Option.some.injEq] at hr; subst hr; exact ⟨.bool (decide (a > b)), rfl, by rw [mkBool_eq, intLt_eq]; rfl⟩
  case geq => simp only [Option.some.injEq] at hr; subst hr; exact ⟨.bool (decide (a ≥ b)), rfl, by rw [mkBool_eq, intLt_eq]; simp only [VR]; congr 1; rw [Bool.eq_iff_iff]; simp⟩
  case and =>
    split at hr
    · rename_i x y
      cases hb : (Nat.blt x (2 ^ k.bits) && Nat.blt y (2 ^ k.bits)) <;> rw [hb] at hr <;> simp only [cond_true, cond_false, Option.some.injEq, reduceCtorEq] at hr
      subst hr
      simp only [Bool.and_eq_true, Nat.blt_eq] at hb
      refine ⟨_, rfl, ?_⟩
      rw [mkInt_eq, wrapTo_eq, ofNat_and hb.1 hb.2]; rfl
    · cases hr
  case or =>
    split at hr
    · rename_i x y
      cases hb : (Nat.blt x (2 ^ k.bits) && Nat.blt y (2 ^ k.bits)) <;> rw [hb] at hr <;> simp only [cond_true, cond_false, Option.some.injEq, reduceCtorEq] at hr
      subst hr
      simp only [Bool.and_eq_true, Nat.blt_eq] at hb
      refine ⟨_, rfl, ?_⟩
      rw [mkInt_eq, wrapTo_eq, ofNat_or hb.1 hb.2]; rfl
    · cases hr
  case xor =>
    split at hr
    · rename_i x y
      cases hb : (Nat.blt x (2 ^ k.bits) && Nat.blt y (2 ^ k.bits)) <;> rw [hb] at hr <;> simp only [cond_true, cond_false, Option.some.injEq, reduceCtorEq] at hr
      subst hr
      simp only [Bool.and_eq_true, Nat.blt_eq] at hb
      refine ⟨_, rfl, ?_⟩
      rw [mkInt_eq, wrapTo_eq, ofNat_xor hb.1 hb.2]; rfl
    · cases hr
  case andNot => simp only [Option.some.injEq] at hr; subst hr; exact ⟨_, rfl, by rw [mkInt_eq]; rfl⟩
  case shl => cases hr
  case shr => cases hr

theorem shiftOp_sound {op : BinOp} {k k' : IntKind} {a b : Int} {r : AV} (hr : shiftOp op k a b = some r) (t : TypeId) : ∃ v, (binOp op t (.int k a) (.int k' b)).run P w = .ok v w ∧ VR E ρ r v := by
  unfold shiftOp at hr
  split at hr
  · rename_i n
    have hn : ¬ (Int.ofNat n < 0) := by simp only [Int.ofNat_eq_natCast]; omega
    split at hr
    · simp only [Option.some.injEq] at hr; subst hr
      refine ⟨.int k (k.wrap (a * 2 ^ (min n k.bits))), ?_, by rw [mkInt_eq, wrapTo_eq]; rfl⟩
      have : binOp .shl t (.int k a) (.int k' (Int.ofNat n)) = Op.shift .shl k a k' (Int.ofNat n) := by simp [binOp]
      rw [this]; unfold Op.shift; rw [if_neg hn]; rfl
    · have : binOp .shr t (.int k a) (.int k' (Int.ofNat n)) = Op.shift .shr k a k' (Int.ofNat n) := by simp [binOp]
      rw [this]; unfold Op.shift; rw [if_neg hn]
      split at hr
      · rename_i x
        simp only [Option.some.injEq] at hr; subst hr
        refine ⟨_, rfl, ?_⟩
        rw [mkInt_eq]
        simp only [VR, Value.int.injEq, true_and]
        rw [show Nat.shiftRight x (min n k.bits) = x / 2 ^ (min n k.bits) from Nat.shiftRight_eq_div_pow x _]
        rw [Int.fdiv_eq_ediv_of_nonneg _ (Int.le_of_lt (Int.pow_pos (by decide)))]
        simp [Int.toNat_natCast]
      · simp only [Option.some.injEq] at hr; subst hr
        exact ⟨_, rfl, by rw [mkInt_eq]; rfl⟩
    · cases hr
  · cases hr

end Go.AM
namespace Go.AM
open Go.RowKit (Below)
variable {E : Nat → Value} {G : Nat} {w0 : World} {ρ : Rho} {h : Heap} {w : World} {P : Program}

/-- The bytes as the model's string. -/
abbrev bstr (l : List UInt8) : ByteArray := ⟨⟨l⟩⟩

theorem bstr_toList (l : List UInt8) : (bstr l).toList = l := ByteArray.toList_mk l
theorem bstr_size (l : List UInt8) : (bstr l).size = l.length := rfl
theorem bstr_append (a b : List UInt8) : bstr a ++ bstr b = bstr (a ++ b) := by
  apply ByteArray.ext
  rw [ByteArray.data_append]
  simp

theorem bstr_extract (l : List UInt8) (i j : Nat) : (bstr l).extract i j = bstr ((l.take j).drop i) := by
  apply ByteArray.ext
  rw [ByteArray.data_extract]
  show (⟨l⟩ : Array UInt8).extract i j = ⟨(l.take j).drop i⟩
  apply Array.ext'
  rw [Array.toList_extract]
  simp [List.extract, List.drop_take]

theorem strOp_sound {op : BinOp} {la a lb b : Nat} {r : AV} (hr : strOp op la a lb b = some r) (ha : a < 256 ^ la) (hb : b < 256 ^ lb) (t : TypeId) :
    ∃ v, (binOp op t (.string (bstr (strBytes la a))) (.string (bstr (strBytes lb b)))).run P w = .ok v w ∧ VR E ρ r v := by
  have hbin : binOp op t (.string (bstr (strBytes la a))) (.string (bstr (strBytes lb b))) = Op.stringOp op (bstr (strBytes la a)) (bstr (strBytes lb b)) := by cases op <;> simp [binOp]
  rw [hbin]
  have heq := strBytes_eq_iff la a lb b ha hb
  cases op <;> simp only [strOp] at hr
  case add =>
    cases hc : Nat.ble (la + lb) 1000000000 <;> rw [hc] at hr <;> simp only [cond_true, cond_false, Option.some.injEq, reduceCtorEq] at hr
    subst hr
    simp only [Nat.ble_eq] at hc
    refine ⟨.string (bstr (strBytes la a ++ strBytes lb b)), ?_, ?_⟩
    · unfold Op.stringOp
      simp only [bstr_size, strBytes_length, bstr_append]
      rw [if_neg (by simp [IntKind.max, IntKind.signed, IntKind.bits]; omega)]
      rfl
    · rw [mkStr_eq]
      refine ⟨?_, by rw [strBytes_append _ _ _ _ hb]⟩
      rw [Nat.pow_add]
      have : (a + 1) * 256 ^ lb ≤ 256 ^ la * 256 ^ lb := Nat.mul_le_mul_right _ ha
      rw [Nat.add_mul] at this
      omega
  case eql => simp only [Option.some.injEq] at hr; subst hr; exact ⟨_, rfl, by rw [mkBool_eq, bstr_toList, bstr_toList, heq]; rfl⟩
  case neq => simp only [Option.some.injEq] at hr; subst hr; exact ⟨_, rfl, by rw [mkBool_eq, bstr_toList, bstr_toList, heq]; rfl⟩
  case lss => simp only [Option.some.injEq] at hr; subst hr; exact ⟨_, rfl, by rw [mkBool_eq, bstr_toList, bstr_toList]; rfl⟩
  case leq => simp only [Option.some.injEq] at hr; subst hr; exact ⟨_, rfl, by rw [mkBool_eq, bstr_toList, bstr_toList, heq]; rfl⟩
  case gtr => simp only [Option.some.injEq] at hr; subst hr; exact ⟨_, rfl, by rw [mkBool_eq, bstr_toList, bstr_toList, heq]; rfl⟩
  case geq => simp only [Option.some.injEq] at hr; subst hr; exact ⟨_, rfl, by rw [mkBool_eq, bstr_toList, bstr_toList]; rfl⟩
  all_goals cases hr

/-! ### Equality -/
theorem bool_beq (a b : Bool) : (a == b) = (a == b) := rfl

theorem shape_cells {blk : Nat} {c : Array Value} {e : TypeId} {fr : Nat × Nat} (hc : w.heap[blk]? = some (.cells c e fr)) : w.shape? blk = some (e, c.size) := by
  simp [World.shape?, hc]

theorem run_viewAt_cells {blk : Nat} {c : Array Value} {e : TypeId} {fr : Nat × Nat} (hc : w.heap[blk]? = some (.cells c e fr)) : (viewAt blk).run P w = .ok none w := by
  simp [viewAt, shape_cells hc]

theorem plainAt_some {b : Nat} (hp : plainAt h b = true) : ∃ row n el opn, h.at b = .cells row n el opn 0 false false := by
  unfold plainAt at hp
  split at hp
  · rename_i row n el opn fz mk ro hat
    simp only [Bool.and_eq_true, Nat.beq_eq, Bool.not_eq_true'] at hp
    obtain ⟨⟨rfl, rfl⟩, rfl⟩ := hp
    exact ⟨row, n, el, opn, hat⟩
  · cases hp

theorem plain_frozen (hr : HeapR E G w0 ρ h w) {b : Nat} {l : Loc} (e : ρ b = some l) (hp : plainAt h b = true) :
    ∃ c el lo hi, w.heap[l.blk]? = some (.cells c el (lo, hi)) ∧ c.size = l.size ∧ l.base ≤ l.size ∧ (∀ off, l.base ≤ off → w.frozen? ⟨l.blk, off, none⟩ = false) := by
  obtain ⟨row, n, el, opn, hat⟩ := plainAt_some hp
  obtain ⟨c, lo, hi, g1, g2, g3, _, _, g6⟩ := hr.cellsAt e hat
  refine ⟨c, el, lo, hi, g1, g2, by omega, fun off hoff => ?_⟩
  simp only [World.frozen?, g1]
  rw [Bool.eq_false_iff]
  intro hh
  simp only [Bool.and_eq_true, decide_eq_true_eq] at hh
  rcases g6.2 off hh.1 hh.2 with h1 | ⟨h1, _⟩
  · omega
  · cases h1

theorem sameAddr_apart (hr : HeapR E G w0 ρ h w) {b b' : Nat} {l l' : Loc} (e : ρ b = some l) (e' : ρ b' = some l') (hne : b ≠ b') (hp : plainAt h b = true) (hp' : plainAt h b' = true) (o o' : Nat) :
    (sameAddr ⟨l.blk, l.base + o, none⟩ ⟨l'.blk, l'.base + o', none⟩).run P w = .ok false w := by
  obtain ⟨c, el, lo, hi, g1, g2, g3, g4⟩ := plain_frozen hr e hp
  obtain ⟨c', el', lo', hi', k1, k2, k3, k4⟩ := plain_frozen hr e' hp'
  have hblk : l.blk ≠ l'.blk := by
    obtain ⟨_, _, _, _, hat⟩ := plainAt_some hp
    obtain ⟨_, _, _, _, hat'⟩ := plainAt_some hp'
    exact hr.sep b b' l l' e e' (by rw [hat]; rfl) (by rw [hat']; rfl) hne
  have f1 := g4 (l.base + o) (by omega)
  have f2 := k4 (l'.base + o') (by omega)
  have f3 := g4 l.size (by omega)
  have f4 := k4 l'.size (by omega)
  unfold sameAddr
  have hb : ((l.blk == l'.blk) = false) := by simpa using hblk
  simp only [hb, Bool.false_eq_true, if_false, Sem.run_bind, run_frozen, Result.andThen_ok, f1, f2, bind_pure_comp, Bool.false_and, Sem.run_pure, noView, run_viewAt_cells g1, run_viewAt_cells k1,
    Option.isSome_none, mayBeOne, stringish, run_shape, shape_cells g1, shape_cells k1, g2, k2, f3, f4, Sem.run_map, Bool.or_self]

theorem eqPtr_sound (hr : HeapR E G w0 ρ h w) {b o b' o' : Nat} {l l' : Loc} (e : ρ b = some l) (e' : ρ b' = some l') {r : Bool} (hq : eqPtr h b o b' o' = some r) :
    (sameAddr ⟨l.blk, l.base + o, none⟩ ⟨l'.blk, l'.base + o', none⟩).run P w = .ok r w := by
  unfold eqPtr at hq
  cases hb : Nat.beq b b' with
  | true =>
    rw [hb] at hq
    simp only [cond_true, Option.some.injEq] at hq
    simp only [Nat.beq_eq] at hb
    subst hb
    rw [e] at e'; simp only [Option.some.injEq] at e'; subst e'
    unfold sameAddr
    simp only [beq_self_eq_true, if_true]
    subst hq
    show Result.ok _ w = Result.ok _ w
    congr 1
    rw [Bool.eq_iff_iff]
    simp only [beq_iff_eq, Addr.mk.injEq, Nat.beq_eq]
    constructor
    · rintro ⟨_, h1, _⟩; omega
    · intro h1; subst h1; simp
  | false =>
    rw [hb] at hq
    simp only [cond_false] at hq
    cases hp : (plainAt h b && plainAt h b') <;> rw [hp] at hq <;> simp only [cond_true, cond_false, Option.some.injEq, reduceCtorEq] at hq
    subst hq
    simp only [Bool.and_eq_true] at hp
    have hne : b ≠ b' := fun hh => by
      have : Nat.beq b b' = true := by rw [Nat.beq_eq]; exact hh
      rw [hb] at this; cases this
    exact sameAddr_apart hr e e' hne hp.1 hp.2 o o'

theorem eqBase_sound (hr : HeapR E G w0 ρ h w) {t : Nat} {x y : AV} {r : Bool} (hq : eqBase P h t x y = some r) {v u : Value} (hv : VR E ρ x v) (hu : VR E ρ y u) (d : Nat) :
    (Op.equalIn (d + 1) t v u).run P w = .ok r w := by
  unfold eqBase at hq
  split at hq
  · rename_i td htd
    unfold Op.equalIn
    simp only [Sem.run_bind, run_underlying_some htd, Result.andThen_ok]
    split at hq
    · obtain rfl := hv; obtain rfl := hu
      simp only [Option.some.injEq] at hq; subst hq; rfl
    · obtain rfl := hv; obtain rfl := hu
      split at hq
      · rename_i hk
        simp only [Option.some.injEq] at hq; subst hq
        rw [intEq_eq]
        simp [hk]
      · cases hq
    · obtain ⟨h1, rfl⟩ := hv; obtain ⟨h2, rfl⟩ := hu
      simp only [Option.some.injEq] at hq; subst hq
      rw [← strBytes_eq_iff _ _ _ _ h1 h2]
      show Result.ok _ w = Result.ok _ w
      congr 1
      rw [beq_toListBytes]
      simp only [ByteArray.toList_eq]
    · obtain rfl := hv; obtain rfl := hu; simp only [Option.some.injEq] at hq; subst hq; rfl
    · obtain rfl := hv; obtain ⟨l, _, rfl⟩ := hu; simp only [Option.some.injEq] at hq; subst hq; rfl
    · obtain ⟨l, _, rfl⟩ := hv; obtain rfl := hu; simp only [Option.some.injEq] at hq; subst hq; rfl
    · rename_i el b o b' o'
      obtain ⟨l, e, rfl⟩ := hv; obtain ⟨l', e', rfl⟩ := hu
      split at hq
      · rename_i n hn
        obtain ⟨i, hi, hs⟩ := sizeOfT_some hn
        simp only [Sem.run_bind, run_sizeOf_some hi, hs, Result.andThen_ok]
        simpa using eqPtr_sound hr e e' hq
      · cases hq
    · obtain rfl := hv; obtain rfl := hu; simp only [Option.some.injEq] at hq; subst hq; rfl
    · obtain rfl := hv; obtain ⟨_, rfl, _⟩ := hu; simp only [Option.some.injEq] at hq; subst hq; rfl
    · obtain ⟨_, rfl, _⟩ := hv; obtain rfl := hu; simp only [Option.some.injEq] at hq; subst hq; rfl
    · obtain rfl := hv; obtain rfl := hu; simp only [Option.some.injEq] at hq; subst hq; rfl
    · obtain rfl := hv; obtain ⟨_, _, _, rfl, _⟩ := hu; simp only [Option.some.injEq] at hq; subst hq; rfl
    · obtain ⟨_, _, _, rfl, _⟩ := hv; obtain rfl := hu; simp only [Option.some.injEq] at hq; subst hq; rfl
    · obtain rfl := hv; obtain ⟨_, _, rfl⟩ := hu; simp only [Option.some.injEq] at hq; subst hq; rfl
    · obtain ⟨_, _, rfl⟩ := hv; obtain rfl := hu; simp only [Option.some.injEq] at hq; subst hq; rfl
    · obtain rfl := hv; obtain rfl := hu; simp only [Option.some.injEq] at hq; subst hq; rfl
    · obtain rfl := hv; obtain ⟨_, _, rfl⟩ := hu; simp only [Option.some.injEq] at hq; subst hq; rfl
    · obtain ⟨_, _, rfl⟩ := hv; obtain rfl := hu; simp only [Option.some.injEq] at hq; subst hq; rfl
    · obtain rfl := hv; obtain rfl := hu; simp only [Option.some.injEq] at hq; subst hq; rfl
    · obtain rfl := hv; obtain ⟨_, _, rfl, _⟩ := hu; simp only [Option.some.injEq] at hq; subst hq; rfl
    · obtain ⟨_, _, rfl, _⟩ := hv; obtain rfl := hu; simp only [Option.some.injEq] at hq; subst hq; rfl
    · cases hq
  · cases hq

end Go.AM
namespace Go.AM
open Go.RowKit (Below)
variable {E : Nat → Value} {G : Nat} {w0 : World} {ρ : Rho} {h : Heap} {w : World} {P : Program}

theorem eqCell_sound (hr : HeapR E G w0 ρ h w) {t : Nat} {x y : AV} {r : Bool} (hq : eqCell P h t x y = some r) {v u : Value} (hv : VR E ρ x v) (hu : VR E ρ y u) (d : Nat) :
    (Op.equalIn (d + 2) t v u).run P w = .ok r w := by
  unfold eqCell at hq
  split at hq
  · rename_i tx vx ty vy
    obtain ⟨a, rfl, ha⟩ := hv
    obtain ⟨b, rfl, hb⟩ := hu
    split at hq
    · rename_i ms htd
      unfold Op.equalIn
      simp only [Sem.run_bind, run_underlying_some htd, Result.andThen_ok]
      cases ht : Nat.beq tx ty with
      | false =>
        rw [ht] at hq
        simp only [cond_false, Option.some.injEq] at hq
        have hne : tx ≠ ty := fun hh => by
          have : Nat.beq tx ty = true := by rw [Nat.beq_eq]; exact hh
          rw [ht] at this; cases this
        simp only [hne, ne_eq, not_false_eq_true, if_true]
        subst hq; rfl
      | true =>
        rw [ht] at hq
        simp only [cond_true] at hq
        simp only [Nat.beq_eq] at ht
        subst ht
        simp only [ne_eq, not_true_eq_false, if_false]
        split at hq
        · rename_i i hi
          cases hc : i.comparable with
          | false => rw [hc] at hq; simp at hq
          | true =>
            rw [hc] at hq
            simp only [cond_true] at hq
            simp only [Sem.run_bind, run_typeInfo_some hi, Result.andThen_ok, hc, Bool.not_true, Bool.false_eq_true, if_false]
            split at hq
            · rename_i dd hdd
              cases hag : isAggD dd <;> rw [hag] at hq <;> simp only [cond_true, cond_false, reduceCtorEq] at hq
              exact eqBase_sound hr hq ha hb d
            · cases hq
        · cases hq
    · cases hq
  · exact eqBase_sound hr hq hv hu (d + 1)

theorem run_part_cell {t : TypeId} {d : TypeDesc} (hd : P.underlying t = some d) (hag : isAggD d = false) {cs : List Value} {off : Nat} {v : Value} (hv : cs[off]? = some v) (w : World) :
    (part t ⟨cs⟩ off).run P w = .ok v w := by
  unfold part
  simp only [Sem.run_bind, run_isAgg_some hd, hag, Result.andThen_ok, Bool.false_eq_true, if_false]
  have : (⟨cs⟩ : Array Value)[off]? = some v := by simpa using hv
  rw [this]; rfl

theorem eqFields_sound (hr : HeapR E G w0 ρ h w) {x y : AV} {xs ys : List Value} (hx : CL E ρ x xs) (hy : CL E ρ y ys) (d : Nat) : ∀ (fs : List Field) (r : Bool), eqFields P h x y fs = some r →
    (Op.eqFields (d + 2) ⟨xs⟩ ⟨ys⟩ fs).run P w = .ok r w := by
  intro fs
  induction fs with
  | nil => intro r hq; simp only [AM.eqFields, Option.some.injEq] at hq; subst hq; rfl
  | cons f fs ih =>
    intro r hq
    simp only [AM.eqFields] at hq
    cases hn : (f.name == "_") <;> rw [hn] at hq <;> simp only [cond_true, cond_false, reduceCtorEq] at hq
    have hne : f.name ≠ "_" := by simpa using hn
    split at hq
    · rename_i td htd
      cases hag : isAggD td <;> rw [hag] at hq <;> simp only [cond_true, cond_false, reduceCtorEq] at hq
      split at hq
      · rename_i a b ha hb
        obtain ⟨v, hv, hvr⟩ := hx.nth ha
        obtain ⟨u, hu, hur⟩ := hy.nth hb
        simp only [Op.eqFields, hne, ne_eq, not_false_eq_true, if_true, Sem.run_bind, run_part_cell htd hag hv, run_part_cell htd hag hu, Result.andThen_ok]
        split at hq
        · rename_i hc
          rw [eqCell_sound hr hc hvr hur d]
          simpa using ih r hq
        · rename_i hc
          rw [eqCell_sound hr hc hvr hur d]
          simp only [Option.some.injEq] at hq; subst hq; rfl
        · cases hq
      · cases hq
    · cases hq

theorem eqElems_sound (hr : HeapR E G w0 ρ h w) {e : Nat} {td : TypeDesc} (htd : P.underlying e = some td) (hag : isAggD td = false) (h1 : P.cellsOf e = 1) {x y : AV} {xs ys : List Value} (hx : CL E ρ x xs) (hy : CL E ρ y ys) (d : Nat) :
    ∀ (n i : Nat) (r : Bool), eqElems P h e x y n i = some r → (Op.eqItems (d + 2) e (P.cellsOf e) ⟨xs⟩ ⟨ys⟩ (List.range' i n)).run P w = .ok r w := by
  intro n
  induction n with
  | zero => intro i r hq; simp only [eqElems, Option.some.injEq] at hq; subst hq; rfl
  | succ n ih =>
    intro i r hq
    simp only [eqElems] at hq
    split at hq
    · rename_i a b ha hb
      obtain ⟨v, hv, hvr⟩ := hx.nth ha
      obtain ⟨u, hu, hur⟩ := hy.nth hb
      rw [List.range'_succ]
      simp only [Op.eqItems, h1, Nat.mul_one, Sem.run_bind, run_part_cell htd hag hv, run_part_cell htd hag hu, Result.andThen_ok]
      split at hq
      · rename_i hc
        rw [eqCell_sound hr hc hvr hur d]
        have := ih (i + 1) r hq
        rw [h1] at this
        simpa using this
      · rename_i hc
        rw [eqCell_sound hr hc hvr hur d]
        simp only [Option.some.injEq] at hq; subst hq; rfl
      · cases hq
    · cases hq

theorem cellsOf_some {t : Nat} {i : TypeInfo} (hi : P.info? t = some i) : P.cellsOf t = i.size := by
  simp [Program.cellsOf, hi]

theorem eqVal_sound (hr : HeapR E G w0 ρ h w) {t : Nat} {x y : AV} {r : Bool} (hq : eqVal P h t x y = some r) {v u : Value} (hv : VR E ρ x v) (hu : VR E ρ y u) :
    (Op.equal t v u).run P w = .ok r w := by
  unfold Op.equal Op.maxDepth
  unfold eqVal at hq
  split at hq
  · rename_i xs ys
    obtain ⟨vs, rfl, hx⟩ := VR.agg_iff.1 hv
    obtain ⟨us, rfl, hy⟩ := VR.agg_iff.1 hu
    split at hq
    · rename_i fs hfs
      cases hst : P.stoodInHeld t <;> rw [hst] at hq <;> simp only [cond_true, cond_false, reduceCtorEq] at hq
      have hf : P.fieldsOf t = fs := by simp [Program.fieldsOf, hfs]
      rw [run_equalIn_struct w 9999 t ⟨vs⟩ ⟨us⟩ (by rw [hf]; exact hfs) hst, hf]
      exact eqFields_sound hr hx hy 9997 fs.toList r hq
    · rename_i len e hfs
      split at hq
      · rename_i td htd
        cases hag : isAggD td <;> rw [hag] at hq <;> simp only [cond_true, cond_false, reduceCtorEq] at hq
        split at hq
        · rename_i hs
          obtain ⟨i, hi, hs1⟩ := sizeOfT_some hs
          rw [run_equalIn_array w 9999 ⟨vs⟩ ⟨us⟩ hfs hi, List.range_eq_range']
          exact eqElems_sound hr htd hag (by rw [cellsOf_some hi, hs1]) hx hy 9997 len 0 r hq
        · cases hq
      · cases hq
    · cases hq
  · exact eqCell_sound hr hq hv hu 9998

/-! ### '==' and '!=' -/
theorem run_eqGuard_key {op : BinOp} {t : TypeId} {x y : Operand} (v u : Value) (h1 : v = .nilIface → u = .nilIface → (isConstO x || isConstO y) = true)
    (h2 : ∀ xs ys, v = .agg xs → u = .agg ys → P.eqGuardType P.depth t = false) : (eqGuard op t x y v u).run P w = .ok () w := by
  unfold eqGuard
  cases op
  case eql =>
    simp only [Bool.not_true, Bool.false_eq_true, if_false]
    split
    · have := h1 rfl rfl
      cases x <;> cases y <;> first | rfl | (simp [isConstO] at this)
    · rename_i xs ys
      have := h2 xs ys rfl rfl
      simp only [Sem.run_bind, run_program, Result.andThen_ok, this, Bool.not_false, if_true]; rfl
    · rfl
  case neq =>
    simp only [Bool.not_true, Bool.false_eq_true, if_false]
    split
    · have := h1 rfl rfl
      cases x <;> cases y <;> first | rfl | (simp [isConstO] at this)
    · rename_i xs ys
      have := h2 xs ys rfl rfl
      simp only [Sem.run_bind, run_program, Result.andThen_ok, this, Bool.not_false, if_true]; rfl
    · rfl
  all_goals rfl

theorem VR.of_nilIface {a : AV} (h : VR E ρ a .nilIface) : a = .inil ∨ a = .junk ∨ (∃ i, a = .ext i) := by
  cases a
  case tup l => obtain ⟨_, e, _⟩ := VR.tup_iff.1 h; cases e
  all_goals (simp [VR] at h <;> simp)
theorem VR.of_agg {a : AV} {xs : Array Value} (h : VR E ρ a (.agg xs)) : (∃ l, a = .agg l) ∨ a = .junk ∨ (∃ i, a = .ext i) := by
  cases a
  case tup l => obtain ⟨_, e, _⟩ := VR.tup_iff.1 h; cases e
  all_goals (simp [VR] at h <;> simp)

theorem run_eqGuard {op : BinOp} {t : TypeId} {x y : Operand} {a b : AV} (hg : guardOk P t x y a b = true) {v u : Value} (hv : VR E ρ a v) (hu : VR E ρ b u) :
    (eqGuard op t x y v u).run P w = .ok () w := by
  refine run_eqGuard_key v u ?_ ?_
  · rintro rfl rfl
    rcases hv.of_nilIface with rfl | rfl | ⟨i, rfl⟩ <;> rcases hu.of_nilIface with rfl | rfl | ⟨j, rfl⟩ <;> simp [guardOk, AV.plainEq] at hg
    simpa using hg
  · rintro xs ys rfl rfl
    rcases hv.of_agg with ⟨l, rfl⟩ | rfl | ⟨i, rfl⟩ <;> rcases hu.of_agg with ⟨m, rfl⟩ | rfl | ⟨j, rfl⟩ <;> simp [guardOk, AV.plainEq] at hg
    exact hg

theorem run_eqGuard_int {op : BinOp} {t : TypeId} {x y : Operand} (k k' : IntKind) (a b : Int) : (eqGuard op t x y (.int k a) (.int k' b)).run P w = .ok () w :=
  run_eqGuard_key _ _ (fun e => by cases e) (fun _ _ e => by cases e)
theorem run_eqGuard_string {op : BinOp} {t : TypeId} {x y : Operand} (a b : ByteArray) : (eqGuard op t x y (.string a) (.string b)).run P w = .ok () w :=
  run_eqGuard_key _ _ (fun e => by cases e) (fun _ _ e => by cases e)

end Go.AM
namespace Go.AM
open Go.RowKit (Below)
variable {E : Nat → Value} {G : Nat} {w0 : World} {ρ : Rho} {h : Heap} {w : World} {P : Program}

def noArith : Value → Bool
  | .int .. | .float .. | .complex .. | .string _ => false
  | _ => true

theorem noArith_eql {t : TypeId} {v u : Value} (hv : noArith v = true) :
    binOp .eql t v u = (do pure (.bool (← Op.equal t v u))) ∧ binOp .neq t v u = (do pure (.bool (!(← Op.equal t v u)))) := by
  cases v <;> simp [noArith] at hv <;> cases u <;> exact ⟨rfl, rfl⟩

theorem VR.plainEq_noArith {a : AV} (ha : a.plainEq = true) {v : Value} (hv : VR E ρ a v) : noArith v = true := by
  cases a <;> simp [AV.plainEq] at ha
  case bool => obtain rfl := hv; rfl
  case pnil => obtain rfl := hv; rfl
  case ptr => obtain ⟨_, _, rfl⟩ := hv; rfl
  case snil => obtain rfl := hv; rfl
  case slice => obtain ⟨_, _, _, rfl, _⟩ := hv; rfl
  case eslice => obtain ⟨_, _, rfl⟩ := hv; rfl
  case mnil => obtain rfl := hv; rfl
  case map => obtain ⟨_, _, rfl⟩ := hv; rfl
  case fnil => obtain rfl := hv; rfl
  case func => obtain ⟨_, _, rfl, _⟩ := hv; rfl
  case inil => obtain rfl := hv; rfl
  case iface => obtain ⟨_, rfl, _⟩ := hv; rfl
  case agg => obtain ⟨_, rfl, _⟩ := hv; rfl

theorem guardOk_plain {t : Nat} {x y : Operand} {a b : AV} (hg : guardOk P t x y a b = true) : a.plainEq = true := by
  unfold guardOk at hg
  simp only [Bool.and_eq_true] at hg
  exact hg.1

theorem eqOp_sound (hr : HeapR E G w0 ρ h w) {t : Nat} {x y : Operand} {a b : AV} {r : Bool} (hg : guardOk P t x y a b = true) (hq : eqVal P h t a b = some r) {v u : Value} (hv : VR E ρ a v) (hu : VR E ρ b u) :
    ((do eqGuard .eql t x y v u; binOp .eql t v u : Sem Value).run P w = .ok (.bool r) w) ∧ ((do eqGuard .neq t x y v u; binOp .neq t v u : Sem Value).run P w = .ok (.bool (!r)) w) := by
  obtain ⟨e1, e2⟩ := noArith_eql (t := t) (u := u) (VR.plainEq_noArith (guardOk_plain hg) hv)
  constructor
  · simp only [Sem.run_bind, run_eqGuard hg hv hu, Result.andThen_ok, e1, eqVal_sound hr hq hv hu, Sem.run_pure]
  · simp only [Sem.run_bind, run_eqGuard hg hv hu, Result.andThen_ok, e2, eqVal_sound hr hq hv hu, Sem.run_pure]

/-! ### Slice expressions -/
theorem run_sliceBound_ok {k : IntKind} {n y : Nat} (hle : n ≤ y) (code : BoundsCode) : (Instr.sliceBound (.int k (n : Int)) y code).run P w = .ok n w := by
  unfold Instr.sliceBound
  have : (0 ≤ (n : Int) ∧ (n : Int) ≤ (y : Int)) := ⟨by omega, by exact_mod_cast hle⟩
  simp [asIntOf, this]

/-- A bound that is given, or not. -/
def BoundR (x : Option Value) (dflt n y : Nat) : Prop := (x = none ∧ n = dflt) ∨ (∃ k, x = some (.int k (n : Int)) ∧ n ≤ y)

theorem run_sliceBounds_ok {isSlice : Bool} {len cap l hh m : Nat} {lo hi mx : Option Value} (hm : BoundR mx cap m cap) (hh' : BoundR hi len hh m) (hl : BoundR lo 0 l hh) (hmx : mx.isSome = true → hi.isSome = true) :
    (Instr.sliceBounds isSlice len cap lo hi mx).run P w = .ok (l, hh, m) w := by
  unfold Instr.sliceBounds
  rcases hm with ⟨rfl, rfl⟩ | ⟨km, rfl, hm⟩ <;> rcases hh' with ⟨rfl, rfl⟩ | ⟨kh, rfl, hh'⟩ <;> rcases hl with ⟨rfl, rfl⟩ | ⟨kl, rfl, hl⟩ <;>
    simp only [Sem.run_bind, Sem.run_pure, Result.andThen_ok, run_sliceBound_ok, *, Option.isSome_none, Option.isSome_some, if_true, if_false, Bool.false_eq_true] at * <;>
    first | rfl | (simp at hmx)

theorem boundA_sound {x : AV} {y n : Nat} (hb : boundA x y = some n) {v : Value} (hv : VR E ρ x v) : ∃ k, v = .int k (n : Int) ∧ n ≤ y := by
  unfold boundA at hb
  split at hb
  · rename_i k m
    cases hc : Nat.ble m y <;> rw [hc] at hb <;> simp only [cond_true, cond_false, Option.some.injEq, reduceCtorEq] at hb
    subst hb
    obtain rfl := hv
    simp only [Nat.ble_eq] at hc
    exact ⟨k, rfl, hc⟩
  · cases hb

/-- An operand that may be missing. -/
def OptR (E : Nat → Value) (ρ : Rho) : Option AV → Option Value → Prop
  | none, none => True
  | some a, some v => VR E ρ a v
  | _, _ => False

theorem optBound_sound {x : Option AV} {dflt y n : Nat} (hb : optBound x dflt y = some n) {v : Option Value} (hv : OptR E ρ x v) : BoundR v dflt n y := by
  cases x with
  | none =>
    cases v with
    | none => simp only [optBound, Option.some.injEq] at hb; exact .inl ⟨rfl, hb.symm⟩
    | some v => exact hv.elim
  | some a =>
    cases v with
    | none => exact hv.elim
    | some v =>
      simp only [optBound] at hb
      obtain ⟨k, e, hle⟩ := boundA_sound hb hv
      exact .inr ⟨k, by rw [e], hle⟩

theorem BoundR.le {x : Option Value} {dflt n y y' : Nat} (hb : BoundR x dflt n y) (hy : y ≤ y') : BoundR x dflt n y' := by
  rcases hb with h1 | ⟨k, e, h2⟩
  · exact .inl h1
  · exact .inr ⟨k, e, by omega⟩

theorem OptR.isSome {x : Option AV} {v : Option Value} (hv : OptR E ρ x v) : x.isSome = v.isSome := by
  cases x <;> cases v <;> first | rfl | exact hv.elim

theorem strSub_VR {len n lo hi : Nat} (h1 : lo ≤ hi) (h2 : hi ≤ len) : VR E ρ (strSub len n lo hi) (.string ((bstr (strBytes len n)).extract lo hi)) := by
  unfold strSub
  rw [mkStr_eq, bstr_extract, strBytes_sub _ _ _ _ h1 h2]
  exact ⟨Nat.mod_lt _ (Nat.pow_pos (by decide)), rfl⟩

theorem BoundR.hi_le {x : Option Value} {dflt n y : Nat} (hb : BoundR x dflt n y) (hd : dflt ≤ y) : n ≤ y := by
  rcases hb with ⟨_, rfl⟩ | ⟨_, _, h⟩ <;> assumption

theorem exactSlice {l : Loc} {b off lo hi m s : Nat} (e : ρ b = some l) :
    VR E ρ (bif Nat.beq m lo then .slice b off (hi - lo) (m - lo) 0 else .slice b (off + lo * s) (hi - lo) (m - lo) 0)
      (.slice (if m = lo then some ⟨l.blk, l.base + off, none⟩ else (some (⟨l.blk, l.base + off, none⟩ : Addr)).map (·.add (lo * s))) (hi - lo) (m - lo)) := by
  cases hb : Nat.beq m lo with
  | true =>
    simp only [Nat.beq_eq] at hb
    rw [if_pos hb]
    exact ⟨l, _, e, rfl, rfl⟩
  | false =>
    have hne : m ≠ lo := fun hh => by
      have : Nat.beq m lo = true := by rw [Nat.beq_eq]; exact hh
      rw [hb] at this; cases this
    rw [if_neg hne]
    refine ⟨l, _, e, ?_, rfl⟩
    simp only [Option.map_some, addr_add]
    rw [Nat.add_assoc]

theorem sliceA_sound {t : Nat} {x : AV} {low high max : Option AV} {r : AV} (hs : sliceA P t x low high max = some r) {v : Value} {lo hi mx : Option Value} (hv : VR E ρ x v)
    (hl : OptR E ρ low lo) (hh : OptR E ρ high hi) (hm : OptR E ρ max mx) (hmx : max.isSome = true → high.isSome = true) :
    ∃ u, (Instr.sliceAt t v lo hi mx).run P w = .ok u w ∧ VR E ρ r u := by
  have hmx' : mx.isSome = true → hi.isSome = true := by rw [← hm.isSome, ← hh.isSome]; exact hmx
  unfold sliceA at hs
  split at hs
  · -- an array
    rename_i n e ht
    split at hs
    · rename_i b off s m hsz hbm
      obtain ⟨i, hi', rfl⟩ := sizeOfT_some hsz
      obtain ⟨l, el, rfl⟩ := hv
      split at hs
      · rename_i hh' hbh
        split at hs
        · rename_i ll hbl
          simp only [Option.some.injEq] at hs; subst hs
          have B := run_sliceBounds_ok (P := P) (w := w) (isSlice := false) (optBound_sound hbm hm) (optBound_sound hbh hh) (optBound_sound hbl hl) hmx'
          refine ⟨_, ?_, exactSlice el⟩
          unfold Instr.sliceAt
          simp only [Sem.run_bind, run_underlying_some ht, Result.andThen_ok, Instr.sureAddr, Sem.run_pure, B, run_sizeOf_some hi']
          congr 2
          split <;> simp
        · cases hs
      · cases hs
    · cases hs
  · -- a string
    rename_i ht
    split at hs
    · rename_i len n
      obtain ⟨hlt, rfl⟩ := hv
      have : mx = none := by cases mx with | none => rfl | some _ => exact hm.elim
      subst this
      split at hs
      · rename_i hh' hbh
        split at hs
        · rename_i ll hbl
          simp only [Option.some.injEq] at hs; subst hs
          have Bh := optBound_sound hbh hh
          have Bl := optBound_sound hbl hl
          have B := run_sliceBounds_ok (P := P) (w := w) (isSlice := false) (len := len) (cap := len) (.inl ⟨rfl, rfl⟩) Bh Bl hmx'
          have h2 : hh' ≤ len := Bh.hi_le (Nat.le_refl _)
          have h1 : ll ≤ hh' := Bl.hi_le (Nat.zero_le _)
          refine ⟨_, ?_, strSub_VR h1 h2⟩
          unfold Instr.sliceAt
          simp only [Sem.run_bind, run_underlying_some ht, Result.andThen_ok]
          unfold Instr.slice
          simp only [Sem.run_bind, run_underlying_some ht, Result.andThen_ok, Option.isSome_none, Bool.false_eq_true, if_false, bstr_size, strBytes_length, B, Sem.run_pure]
        · cases hs
      · cases hs
    · cases hs
  · -- a slice
    rename_i e ht
    have hat : ∀ v, (Instr.sliceAt t v lo hi mx).run P w = (Instr.slice t v lo hi mx).run P w := by
      intro v
      unfold Instr.sliceAt
      simp only [Sem.run_bind, run_underlying_some ht, Result.andThen_ok]
    rw [hat]
    have run : ∀ (a : Option Addr) (len cap ll hh' m : Nat) (i : TypeInfo), P.info? e = some i → BoundR mx cap m cap → BoundR hi len hh' m → BoundR lo 0 ll hh' →
        (Instr.slice t (.slice a len cap) lo hi mx).run P w = .ok (.slice (if m = ll then a else a.map (·.add (ll * i.size))) (hh' - ll) (m - ll)) w := by
      intro a len cap ll hh' m i hi' b1 b2 b3
      unfold Instr.slice
      simp only [Sem.run_bind, run_underlying_some ht, Result.andThen_ok, run_sliceBounds_ok (P := P) (w := w) (isSlice := true) b1 b2 b3 hmx', run_sizeOf_some hi', Sem.run_pure]
    split at hs
    · -- nil
      rename_i s hsz
      obtain ⟨i, hi', rfl⟩ := sizeOfT_some hsz
      obtain rfl := hv
      split at hs
      · rename_i m hbm
        split at hs
        · rename_i hh' hbh
          split at hs
          · rename_i ll hbl
            simp only [Option.some.injEq] at hs; subst hs
            have Bm := optBound_sound hbm hm
            have Bh := optBound_sound hbh hh
            have Bl := optBound_sound hbl hl
            have h3 : m ≤ 0 := Bm.hi_le (Nat.le_refl _)
            have h2 : hh' ≤ m := Bh.hi_le (Nat.zero_le _)
            have h1 : ll ≤ hh' := Bl.hi_le (Nat.zero_le _)
            refine ⟨_, run none 0 0 ll hh' m i hi' Bm Bh Bl, ?_⟩
            have e1 : m = 0 := by omega
            have e2 : hh' = 0 := by omega
            have e3 : ll = 0 := by omega
            subst e1; subst e2; subst e3
            rfl
          · cases hs
        · cases hs
      · cases hs
    · -- an empty tail
      rename_i s hsz
      obtain ⟨i, hi', rfl⟩ := sizeOfT_some hsz
      obtain ⟨a, c, rfl⟩ := hv
      split at hs
      · rename_i hh' ll hbh hbl
        simp only [Option.some.injEq] at hs; subst hs
        have : mx = none := by cases mx with | none => rfl | some _ => exact hm.elim
        subst this
        have Bh := optBound_sound hbh hh
        have Bl := optBound_sound hbl hl
        have h2 : hh' ≤ 0 := Bh.hi_le (Nat.le_refl _)
        have h1 : ll ≤ 0 := Bl.hi_le (Nat.zero_le _)
        have e2 : hh' = 0 := by omega
        have e3 : ll = 0 := by omega
        subst e2; subst e3
        refine ⟨_, run (some a) 0 c 0 0 c i hi' (.inl ⟨rfl, rfl⟩) (Bh.le (Nat.zero_le _)) Bl, ?_⟩
        split <;> exact ⟨_, _, rfl⟩
      · cases hs
    · -- the capacity is known
      rename_i b off len cap s hsz
      obtain ⟨i, hi', rfl⟩ := sizeOfT_some hsz
      obtain ⟨l, c, el, rfl, hc⟩ := hv
      simp only at hc; subst hc
      split at hs
      · rename_i m hbm
        split at hs
        · rename_i hh' hbh
          split at hs
          · rename_i ll hbl
            simp only [Option.some.injEq] at hs; subst hs
            exact ⟨_, run _ _ _ _ _ _ i hi' (optBound_sound hbm hm) (optBound_sound hbh hh) (optBound_sound hbl hl), exactSlice el⟩
          · cases hs
        · cases hs
      · cases hs
    · -- the capacity is open
      rename_i b off len cap0 z s hsz
      obtain ⟨i, hi', rfl⟩ := sizeOfT_some hsz
      obtain ⟨l, c, el, rfl, hc1, hc2⟩ := hv
      cases hbz : Nat.beq (z + 1) i.size <;> rw [hbz] at hs <;> simp only [cond_true, cond_false, reduceCtorEq] at hs
      simp only [Nat.beq_eq] at hbz
      split at hs
      · rename_i m0
        split at hs
        · rename_i m hbm
          split at hs
          · rename_i hh' hbh
            split at hs
            · rename_i ll hbl
              simp only [Option.some.injEq] at hs; subst hs
              have Bm : BoundR mx c m c := by
                cases mx with
                | none => exact hm.elim
                | some u => obtain ⟨k, e1, e2⟩ := boundA_sound hbm hm; exact .inr ⟨k, by rw [e1], by omega⟩
              exact ⟨_, run _ _ _ _ _ _ i hi' Bm (optBound_sound hbh hh) (optBound_sound hbl hl), exactSlice el⟩
            · cases hs
          · cases hs
        · cases hs
      · have : mx = none := by cases mx with | none => rfl | some _ => exact hm.elim
        subst this
        split at hs
        · rename_i hh' hbh
          split at hs
          · rename_i ll hbl
            have Bh := optBound_sound hbh hh
            have Bl := optBound_sound hbl hl
            have h2 : hh' ≤ len := Bh.hi_le (Nat.le_refl _)
            have h1 : ll ≤ hh' := Bl.hi_le (Nat.zero_le _)
            refine ⟨_, run _ _ c ll hh' c i hi' (.inl ⟨rfl, rfl⟩) (Bh.le hc2) Bl, ?_⟩
            cases hlt : Nat.blt ll len with
            | true =>
              rw [hlt] at hs
              simp only [cond_true, Option.some.injEq] at hs; subst hs
              simp only [Nat.blt_eq] at hlt
              rw [if_neg (by omega)]
              refine ⟨l, c - ll, el, by simp only [Option.map_some, addr_add]; rw [Nat.add_assoc], ?_⟩
              rw [← hbz]
              refine ⟨?_, by omega⟩
              have : (c - ll) * (z + 1) = c * (z + 1) - ll * (z + 1) := Nat.sub_mul _ _ _
              have hmul : ll * (z + 1) ≤ c * (z + 1) := Nat.mul_le_mul_right _ (by omega)
              simp only [this]
              omega
            | false =>
              rw [hlt] at hs
              simp only [cond_false] at hs
              have hge : len ≤ ll := by
                rcases Nat.lt_or_ge ll len with h3 | h3
                · have : Nat.blt ll len = true := by rw [Nat.blt_eq]; exact h3
                  rw [hlt] at this; cases this
                · exact h3
              cases hz : Nat.beq ll 0 with
              | true =>
                rw [hz] at hs
                simp only [cond_true, Option.some.injEq] at hs; subst hs
                simp only [Nat.beq_eq] at hz
                subst hz
                have e1 : hh' = 0 := by omega
                subst e1
                refine ⟨l, c, el, ?_, ?_⟩
                · split <;> simp [addr_add]
                · rw [← hbz]; exact ⟨hc1, Nat.zero_le _⟩
              | false =>
                rw [hz] at hs
                simp only [cond_false, Option.some.injEq] at hs; subst hs
                have e1 : hh' - ll = 0 := by omega
                rw [e1]
                split <;> exact ⟨_, _, rfl⟩
          · cases hs
        · cases hs
    · cases hs
  · cases hs

end Go.AM
namespace Go.AM
open Go.RowKit (Below)
variable {E : Nat → Value} {G : Nat} {w0 : World} {ρ : Rho} {h : Heap} {w : World} {P : Program}

/-! ### Parts of an aggregate -/
theorem partA_sound {t : Nat} {c : AV} {off : Nat} {r : AV} (hp : partA P t c off = some r) {xs : List Value} (hc : CL E ρ c xs) : ∃ v, (part t ⟨xs⟩ off).run P w = .ok v w ∧ VR E ρ r v := by
  unfold partA at hp
  split at hp
  · rename_i d hd
    cases hag : isAggD d with
    | true =>
      rw [hag] at hp
      simp only [cond_true] at hp
      split at hp
      · rename_i n hn
        obtain ⟨i, hi, rfl⟩ := sizeOfT_some hn
        cases hb : Nat.ble (off + i.size) c.len <;> rw [hb] at hp <;> simp only [cond_true, cond_false, Option.some.injEq, reduceCtorEq] at hp
        subst hp
        refine ⟨.agg ⟨(xs.drop off).take i.size⟩, ?_, (hc.drop.take).agg⟩
        unfold part
        simp only [Sem.run_bind, run_isAgg_some hd, hag, Result.andThen_ok, if_true, run_sizeOf_some hi, Sem.run_pure]
        congr 2
        apply Array.ext'
        rw [Array.toList_extract]
        simp [List.extract]
      · cases hp
    | false =>
      rw [hag] at hp
      simp only [cond_false] at hp
      obtain ⟨v, hv, hvr⟩ := hc.nth hp
      exact ⟨v, run_part_cell hd hag hv w, hvr⟩
  · cases hp

theorem fieldOff_some {s f o t : Nat} (hf : fieldOff P s f = some (o, t)) : ∃ fs fl, P.underlying s = some (.struct fs) ∧ fs[f]? = some fl ∧ fl.offset = o ∧ fl.type = t := by
  unfold fieldOff at hf
  split at hf
  · rename_i fs hfs
    split at hf
    · rename_i fl hfl
      simp only [Option.some.injEq, Prod.mk.injEq] at hf
      exact ⟨fs, fl, hfs, by simpa using hfl, hf.1, hf.2⟩
    · cases hf
  · cases hf

theorem fieldAddr_sound {s f o t n b off : Nat} (hf : fieldOff P s f = some (o, t)) (hs : sizeOfT P t = some (n + 1)) {v : Value} (hv : VR E ρ (.ptr b off) v) :
    ∃ u, (Instr.fieldAt s v f).run P w = .ok u w ∧ VR E ρ (.ptr b (off + o)) u := by
  obtain ⟨fs, fl, hfs, hfl, rfl, rfl⟩ := fieldOff_some hf
  obtain ⟨i, hi, hsz⟩ := sizeOfT_some hs
  obtain ⟨l, e, rfl⟩ := hv
  refine ⟨_, ?_, ⟨l, e, rfl⟩⟩
  unfold Instr.fieldAt fieldPlace
  simp only [Sem.run_bind, run_underlying_some hfs, Result.andThen_ok, hfl, Instr.sureAddr, Sem.run_pure, run_sizeOf_some hi, hsz, Nat.add_one_ne_zero, if_false, addr_add, Nat.add_assoc]

theorem field_sound {s f o t : Nat} (hf : fieldOff P s f = some (o, t)) {c : AV} {r : AV} (hp : partA P t c o = some r) {v : Value} (hv : VR E ρ (.agg c) v) :
    ∃ u, (Instr.field s v f).run P w = .ok u w ∧ VR E ρ r u := by
  obtain ⟨fs, fl, hfs, hfl, rfl, rfl⟩ := fieldOff_some hf
  obtain ⟨xs, rfl, hc⟩ := VR.agg_iff.1 hv
  obtain ⟨u, hu, hr⟩ := partA_sound (P := P) (w := w) hp hc
  refine ⟨u, ?_, hr⟩
  unfold Instr.field
  simp only [Sem.run_bind, run_underlying_some hfs, Result.andThen_ok, hfl, asAgg, Sem.run_pure, hu]

theorem indexAddr_sound {t : Nat} {x i : AV} {r : AV} (hs : indexAddrA P t x i = some r) {v u : Value} (hv : VR E ρ x v) (hu : VR E ρ i u) :
    ∃ z, (Instr.indexAt t v u).run P w = .ok z w ∧ VR E ρ r z := by
  unfold indexAddrA at hs
  split at hs
  · rename_i k j
    obtain rfl := hu
    split at hs
    · rename_i len e ht
      split at hs
      · rename_i b off s hsz
        obtain ⟨ti, hi, rfl⟩ := sizeOfT_some hsz
        obtain ⟨l, el, rfl⟩ := hv
        cases hb : Nat.blt j len <;> rw [hb] at hs <;> simp only [cond_true, cond_false, Option.some.injEq, reduceCtorEq] at hs
        subst hs
        simp only [Nat.blt_eq] at hb
        refine ⟨_, ?_, ⟨l, el, rfl⟩⟩
        unfold Instr.indexAt
        have hlt : (0 ≤ Int.ofNat j ∧ Int.ofNat j < (len : Int)) := ⟨Int.natCast_nonneg _, Int.ofNat_lt.2 hb⟩
        simp only [Sem.run_bind, asIntOf, Sem.run_pure, run_underlying_some ht, Result.andThen_ok, Instr.sureAddr, if_pos hlt, run_sizeOf_some hi, addr_add, Nat.add_assoc]
        simp
      · cases hs
    · rename_i e ht
      split at hs
      · rename_i b off len cap z s hsz
        obtain ⟨ti, hi, rfl⟩ := sizeOfT_some hsz
        obtain ⟨l, c, el, rfl, _⟩ := hv
        cases hb : Nat.blt j len <;> rw [hb] at hs <;> simp only [cond_true, cond_false, Option.some.injEq, reduceCtorEq] at hs
        subst hs
        simp only [Nat.blt_eq] at hb
        refine ⟨_, ?_, ⟨l, el, rfl⟩⟩
        unfold Instr.indexAt
        have hlt : (0 ≤ Int.ofNat j ∧ Int.ofNat j < (len : Int)) := ⟨Int.natCast_nonneg _, Int.ofNat_lt.2 hb⟩
        simp only [Sem.run_bind, asIntOf, Sem.run_pure, run_underlying_some ht, Result.andThen_ok, if_pos hlt, run_sizeOf_some hi, addr_add, Nat.add_assoc]
        simp
      · cases hs
    · cases hs
  · cases hs

theorem index_sound {t : Nat} {x i : AV} {r : AV} (hs : indexA P t x i = some r) {v u : Value} (hv : VR E ρ x v) (hu : VR E ρ i u) :
    ∃ z, (Instr.index t v u).run P w = .ok z w ∧ VR E ρ r z := by
  unfold indexA at hs
  split at hs
  · rename_i k j
    obtain rfl := hu
    split at hs
    · rename_i len e c ht
      split at hs
      · rename_i s hsz
        obtain ⟨ti, hi, rfl⟩ := sizeOfT_some hsz
        obtain ⟨xs, rfl, hc⟩ := VR.agg_iff.1 hv
        cases hb : Nat.blt j len <;> rw [hb] at hs <;> simp only [cond_true, cond_false, reduceCtorEq] at hs
        simp only [Nat.blt_eq] at hb
        obtain ⟨z, hz, hr⟩ := partA_sound (P := P) (w := w) hs hc
        refine ⟨z, ?_, hr⟩
        unfold Instr.index
        have hlt : (0 ≤ Int.ofNat j ∧ Int.ofNat j < (len : Int)) := ⟨Int.natCast_nonneg _, Int.ofNat_lt.2 hb⟩
        simp only [Sem.run_bind, asIntOf, Sem.run_pure, run_underlying_some ht, Result.andThen_ok, if_pos hlt, run_sizeOf_some hi]
        simpa using hz
      · cases hs
    · rename_i len n ht
      obtain ⟨hlt', rfl⟩ := hv
      cases hb : Nat.blt j len <;> rw [hb] at hs <;> simp only [cond_true, cond_false, Option.some.injEq, reduceCtorEq] at hs
      subst hs
      simp only [Nat.blt_eq] at hb
      have hsz : (bstr (strBytes len n)).size = len := by rw [bstr_size, strBytes_length]
      have hlt : (0 ≤ Int.ofNat j ∧ Int.ofNat j < ((bstr (strBytes len n)).size : Int)) := ⟨Int.natCast_nonneg _, by rw [hsz]; exact Int.ofNat_lt.2 hb⟩
      refine ⟨_, by rw [run_index_string w t _ k (Int.ofNat j) ht, dif_pos hlt], ?_⟩
      rw [mkInt_eq]
      simp only [VR, Value.int.injEq, true_and]
      have hget := strBytes_get len n j hb
      have : (bstr (strBytes len n))[(Int.ofNat j).toNat]'(by simp; rw [hsz]; exact hb) = UInt8.ofNat (strByte len n j) := by
        have h2 : j < (strBytes len n).length := by rw [strBytes_length]; exact hb
        rw [List.getElem?_eq_getElem h2] at hget
        simp only [Option.some.injEq] at hget
        exact hget
      rw [this]
      have hb' : strByte len n j < 256 := Nat.mod_lt _ (by decide)
      simp [Nat.mod_eq_of_lt hb']
    · cases hs
  · cases hs

/-! ### Lengths -/
theorem run_getObj_m {r : Nat} {es : Array MapEntry} {clock : Nat} (hb : w.heap[r]? = some (.map es clock)) : (getObj r).run P w = .ok (.map es clock) w := by
  simp [getObj, Sem.run, hb]

theorem mapAt_some {b : Nat} {es : List (AV × AV × Nat)} {clock : Nat} (hm : mapAt h b = some (es, clock)) : h.at b = .map es clock := by
  unfold mapAt at hm
  split at hm
  · rename_i es' c' hat
    simp only [Option.some.injEq, Prod.mk.injEq] at hm
    rw [hat, hm.1, hm.2]
  · cases hm

theorem HeapR.mapAt (hr : HeapR E G w0 ρ h w) {b : Nat} {l : Loc} (e : ρ b = some l) {es : List (AV × AV × Nat)} {clock : Nat} (hm : mapAt h b = some (es, clock)) :
    ∃ ces, w.heap[l.blk]? = some (.map ⟨ces⟩ clock) ∧ F2 (EntR E ρ) es ces := by
  obtain ⟨o, h1, h2⟩ := hr.obj b l e
  rw [mapAt_some hm] at h2
  obtain ⟨ces, rfl, h3⟩ := h2
  exact ⟨ces, h1, h3⟩

theorem len_sound (hr : HeapR E G w0 ρ h w) {t : Nat} {x : AV} {r : AV} (hs : lenA P h t x = some r) {v : Value} (hv : VR E ρ x v) (ts : List TypeId) (ty : TypeId) :
    ∃ z, (Builtin.len_ ⟨t :: ts⟩ ty #[v]).run P w = .ok z w ∧ VR E ρ r z := by
  unfold lenA at hs
  split at hs
  · rename_i l n ht
    obtain ⟨_, rfl⟩ := hv
    simp only [Option.some.injEq] at hs; subst hs
    refine ⟨goInt l, ?_, by rw [mkInt_eq]; rfl⟩
    have e1 : (bstr (strBytes l n)).size = l := by rw [bstr_size, strBytes_length]
    simp only [Builtin.len_, List.getElem?_toArray, List.getElem?_cons_zero, Sem.run_bind, run_underlying_some ht, Result.andThen_ok]
    show Result.ok (goInt ((bstr (strBytes l n)).size)) w = _
    rw [e1]
  · rename_i e ht
    obtain rfl := hv
    simp only [Option.some.injEq] at hs; subst hs
    exact ⟨_, by simp [Builtin.len_, run_underlying_some ht, goInt], rfl⟩
  · rename_i e ht
    obtain ⟨_, _, rfl⟩ := hv
    simp only [Option.some.injEq] at hs; subst hs
    exact ⟨_, by simp [Builtin.len_, run_underlying_some ht, goInt], rfl⟩
  · rename_i e b o l c z ht
    obtain ⟨_, _, _, rfl, _⟩ := hv
    simp only [Option.some.injEq] at hs; subst hs
    exact ⟨goInt l, by simp [Builtin.len_, run_underlying_some ht, goInt], by rw [mkInt_eq]; rfl⟩
  · rename_i n e ht
    simp only [Option.some.injEq] at hs; subst hs
    refine ⟨goInt n, ?_, by rw [mkInt_eq]; rfl⟩
    simp only [Builtin.len_, List.getElem?_toArray, List.getElem?_cons_zero, Sem.run_bind, run_underlying_some ht, Result.andThen_ok]
    cases v <;> rfl
  · rename_i a ht
    split at hs
    · rename_i n e hta
      simp only [Option.some.injEq] at hs; subst hs
      refine ⟨goInt n, ?_, by rw [mkInt_eq]; rfl⟩
      simp only [Builtin.len_, List.getElem?_toArray, List.getElem?_cons_zero, Sem.run_bind, run_underlying_some ht, Result.andThen_ok]
      cases v <;> simp [run_underlying_some hta, goInt]
    · cases hs
  · rename_i k e ht
    obtain rfl := hv
    simp only [Option.some.injEq] at hs; subst hs
    exact ⟨_, by simp [Builtin.len_, run_underlying_some ht, goInt], rfl⟩
  · rename_i k e b ht
    obtain ⟨l, el, rfl⟩ := hv
    split at hs
    · rename_i es clock hm
      simp only [Option.some.injEq] at hs; subst hs
      obtain ⟨ces, h1, h2⟩ := hr.mapAt el hm
      refine ⟨goInt ces.length, ?_, by rw [mkInt_eq, h2.length]; rfl⟩
      simp only [Builtin.len_, List.getElem?_toArray, List.getElem?_cons_zero, Sem.run_bind, run_underlying_some ht, Result.andThen_ok, run_getObj_m h1]
      rfl
    · cases hs
  · cases hs

theorem cap_sound {t : Nat} {x : AV} {r : AV} (hs : capA P t x = some r) {v : Value} (hv : VR E ρ x v) (ts : List TypeId) (ty : TypeId) :
    ∃ z, (Builtin.cap_ ⟨t :: ts⟩ ty #[v]).run P w = .ok z w ∧ VR E ρ r z := by
  unfold capA at hs
  split at hs
  · rename_i e ht
    obtain rfl := hv
    simp only [Option.some.injEq] at hs; subst hs
    exact ⟨_, by simp [Builtin.cap_, run_underlying_some ht, goInt], rfl⟩
  · rename_i e b o l c ht
    obtain ⟨_, c', _, rfl, hc⟩ := hv
    have hc : c' = c := hc
    subst hc
    simp only [Option.some.injEq] at hs; subst hs
    exact ⟨goInt c', by simp [Builtin.cap_, run_underlying_some ht, goInt], by rw [mkInt_eq]; rfl⟩
  · cases hs

/-! ### Conversions -/
/-- The bytes that the model reads off a list of byte cells. -/
def byteOfV : Value → Option UInt8
  | .int .u8 n => some (UInt8.ofNat n.toNat)
  | _ => none

theorem bytesStr_bytes : ∀ {c : AV} {xs : List Value}, CL E ρ c xs → ∀ {pre : List UInt8} {r : AV}, bytesStr c pre.length (strVal pre) = some r →
    ∃ l : List UInt8, xs.map byteOfV = l.map some ∧ r = strOf (pre ++ l) := by
  intro c
  induction c with
  | nil =>
    intro xs hc pre r hs
    rw [CL.nil_iff] at hc; subst hc
    simp only [bytesStr, Option.some.injEq] at hs; subst hs
    exact ⟨[], rfl, by rw [mkStr_eq, List.append_nil]; rfl⟩
  | cons a t _ ih =>
    intro xs hc pre r hs
    obtain ⟨x, ys, rfl, h1, h2⟩ := CL.cons_iff.1 hc
    unfold bytesStr at hs
    split at hs
    · rename_i _ _ b _ heq
      simp only [AV.cons.injEq] at heq
      obtain ⟨rfl, rfl⟩ := heq
      obtain rfl := h1
      rw [natSeq_eq] at hs
      have hb : (UInt8.ofNat b).toNat = b % 256 := by simp
      have e1 : strVal pre * 256 + b % 256 = strVal (pre ++ [UInt8.ofNat b]) := by
        rw [strVal_append]; simp [strVal]
      rw [e1, show pre.length + 1 = (pre ++ [UInt8.ofNat b]).length from by simp] at hs
      obtain ⟨l, g1, g2⟩ := ih h2 hs
      refine ⟨UInt8.ofNat b :: l, ?_, by rw [g2]; simp⟩
      simp only [List.map_cons, g1]
      congr 1
    · rename_i heq; cases heq
    · cases hs
  | _ => intro xs hc; simp [CL, isChain] at hc

theorem run_bytesToString {blk off len cap : Nat} {xs : List Value} {l : List UInt8} (hx : xs.map byteOfV = l.map some) (hl : xs.length = len)
    (hc : ∀ j v, xs[j]? = some v → w.cell? ((⟨blk, off, none⟩ : Addr).add j) = some v) :
    (Conv.bytesToString (.slice (some ⟨blk, off, none⟩) len cap)).run P w = .ok (.string (bstr l)) w := by
  unfold Conv.bytesToString
  simp only [Sem.run_bind]
  rw [← hl, run_loadCells_list _ _ _ hc]
  simp only [Result.andThen_ok]
  have key : ∀ (xs : List Value) (l : List UInt8) (s : ByteArray), xs.map byteOfV = l.map some →
      (forIn xs s (fun c __s => (match c with
        | .int .u8 n => pure (ForInStep.yield (__s.push (UInt8.ofNat n.toNat)))
        | _ => do
          stuck "bytesToString: byte expected"
          pure (ForInStep.yield __s)) : Value → ByteArray → Sem (ForInStep ByteArray))).run P w = .ok (s ++ bstr l) w := by
    intro xs
    induction xs with
    | nil =>
      intro l s hl
      cases l with
      | nil =>
        simp only [List.forIn_nil, Sem.run_pure]
        congr 1
        apply ByteArray.ext
        rw [ByteArray.data_append]
        simp
      | cons => simp at hl
    | cons x xs ih =>
      intro l s hl
      cases l with
      | nil => simp at hl
      | cons b l =>
        simp only [List.map_cons, List.cons.injEq] at hl
        obtain ⟨h1, h2⟩ := hl
        unfold byteOfV at h1
        split at h1
        · rename_i n
          simp only [Option.some.injEq] at h1
          simp only [List.forIn_cons, Sem.run_bind, Sem.run_pure, Result.andThen_ok]
          rw [ih l _ h2]
          congr 1
          apply ByteArray.ext
          rw [ByteArray.data_append, ByteArray.data_append, ByteArray.data_push, h1]
          apply Array.ext'
          simp
        · cases h1
  have := key xs l ByteArray.empty hx
  rw [List.forIn_toArray]
  have e0 : ByteArray.empty ++ bstr l = bstr l := by
    apply ByteArray.ext
    rw [ByteArray.data_append]
    simp
  rw [e0] at this
  exact (congrArg (fun r => Result.andThen r fun a w' => Result.ok (Value.string a) w') this).trans rfl

end Go.AM
namespace Go.AM
open Go.RowKit (Below)
variable {E : Nat → Value} {G : Nat} {w0 : World} {ρ : Rho} {h : Heap} {w : World} {P : Program}

/-! ### 'build' -/
theorem foldl_set : ∀ (vs : List Value) (off j : Nat) (cs : Array Value), off + j + vs.length ≤ cs.size →
    ((vs.zipIdx j).foldl (fun (cs : Array Value) (c, j) => cs.setIfInBounds (off + j) c) cs).toList = cs.toList.take (off + j) ++ vs ++ cs.toList.drop (off + j + vs.length) := by
  intro vs
  induction vs with
  | nil => intro off j cs _; simp
  | cons v vs ih =>
    intro off j cs hl
    simp only [List.length_cons] at hl
    rw [List.zipIdx_cons, List.foldl_cons, ih off (j + 1) _ (by simp; omega)]
    simp only [Array.toList_setIfInBounds, List.length_cons]
    have hlt : off + j < cs.toList.length := by simp; omega
    have e1 : (cs.toList.set (off + j) v).take (off + (j + 1)) = cs.toList.take (off + j) ++ [v] := by
      rw [show off + (j + 1) = (off + j) + 1 from by omega, List.take_succ_eq_append_getElem (by simpa using hlt), List.take_set_of_le (Nat.le_refl _)]
      simp
    have e2 : (cs.toList.set (off + j) v).drop (off + (j + 1) + vs.length) = cs.toList.drop (off + j + (vs.length + 1)) := by
      rw [List.drop_set_of_lt (by omega)]
      congr 1; omega
    rw [e1, e2]
    simp

/-- The parts of a literal, and their values. -/
def PartR (E : Nat → Value) (ρ : Rho) (a : Nat × AV) (b : Nat × Value) : Prop := a.1 = b.1 ∧ VR E ρ a.2 b.2

theorem fillA_sound (hE : ∀ i, (E i).oneCell' = true) {place place' : Nat → Option (Nat × Nat)} (hp : ∀ i x, place i = some x → place' i = some x) : ∀ {ps : List (Nat × AV)} {qs : List (Nat × Value)}, F2 (PartR E ρ) ps qs →
    ∀ {c r : AV} {cs : Array Value}, CL E ρ c cs.toList → fillA place c ps = some r → ∃ cs', Instr.fill place' cs qs = some cs' ∧ CL E ρ r cs'.toList := by
  intro ps qs h
  induction h with
  | nil => intro c r cs hc hs; simp only [fillA, Option.some.injEq] at hs; subst hs; exact ⟨cs, rfl, hc⟩
  | @cons a b as bs hab _ ih =>
    intro c r cs hc hs
    obtain ⟨i, v⟩ := a
    obtain ⟨j, u⟩ := b
    obtain ⟨e1, hv⟩ := hab
    simp only at e1 hv
    subst e1
    simp only [fillA] at hs
    split at hs
    · rename_i off n hpl
      have hcell := VR.cells hE hv
      have hcl := hcell.len
      have hclen := hc.len
      cases hb : (Nat.beq v.cells.len n && Nat.ble (off + n) c.len) <;> rw [hb] at hs <;> simp only [cond_true, cond_false, reduceCtorEq] at hs
      simp only [Bool.and_eq_true, Nat.beq_eq, Nat.ble_eq] at hb
      split at hs
      · rename_i c' hsp
        have hfit : off + u.cells.toList.length ≤ cs.toList.length := by rw [← hcl, ← hclen, hb.1]; exact hb.2
        have hsplice := CL.splice hc hcell hsp hfit
        have hfold := foldl_set u.cells.toList off 0 cs (by simpa using hfit)
        simp only [Nat.add_zero] at hfold
        rw [← hfold] at hsplice
        obtain ⟨cs', g1, g2⟩ := ih hsplice hs
        refine ⟨cs', ?_, g2⟩
        unfold Instr.fill
        rw [hp i _ hpl]
        have hsz : u.cells.size = n := by rw [← hb.1, hcl]; simp
        have hcs : cs.size = c.len := by rw [hclen]; simp
        have hle : ¬ (off + u.cells.size > cs.size) := by omega
        have hne : ¬ (u.cells.size ≠ n) := by simp [hsz]
        simp only [hle, hne, decide_false, Bool.or_self, Bool.false_eq_true, if_false]
        rw [← Array.foldl_toList, Array.toList_zipIdx]
        exact g1
      · cases hs
    · cases hs

theorem mapM_some_get {α β : Type} (f : α → Option β) : ∀ (l : List α), (∀ x ∈ l, (f x).isSome = true) → ∃ r, l.mapM f = some r ∧ ∀ (i : Nat) (a : α) (b : β), l[i]? = some a → f a = some b → r[i]? = some b := by
  intro l
  induction l with
  | nil => intro _; exact ⟨[], by simp, by simp⟩
  | cons x l ih =>
    intro hall
    obtain ⟨r, h1, h2⟩ := ih fun y hy => hall y (by simp [hy])
    have hx := hall x (by simp)
    cases hfx : f x with
    | none => rw [hfx] at hx; simp at hx
    | some y =>
      refine ⟨y :: r, by simp [List.mapM_cons, hfx, h1], ?_⟩
      intro i a b hi hb
      cases i with
      | zero => simp at hi; subst hi; rw [hfx] at hb; simp at hb; subst hb; simp
      | succ i => simpa using h2 i a b (by simpa using hi) hb

theorem buildA_sound (hE : ∀ i, (E i).oneCell' = true) {t : Nat} {ps : List (Nat × AV)} {qs : List (Nat × Value)} (hps : F2 (PartR E ρ) ps qs) {r : AV} (hs : buildA P t ps = some r) :
    ∃ v, (Instr.build t ⟨qs⟩).run P w = .ok v w ∧ VR E ρ r v := by
  unfold buildA at hs
  split at hs
  · rename_i z hz
    obtain ⟨it, zv, hit, hzv, hzc⟩ := CL.zeroCells (ρ := ρ) hE hz
    cases hok : sizesOk P t <;> rw [hok] at hs <;> simp only [cond_true, cond_false, reduceCtorEq] at hs
    split at hs
    · rename_i c hf
      simp only [Option.some.injEq] at hs; subst hs
      unfold sizesOk at hok
      split at hok
      · rename_i fs hfs
        have hall : ∀ f ∈ fs.toList, ((P.info? f.type).map fun i => (f.offset, i.size)).isSome = true := by
          intro f hf'
          have := List.all_eq_true.1 hok f hf'
          unfold sizeOfT at this
          cases hi : P.info? f.type with
          | none => simp [hi] at this
          | some i => simp
        obtain ⟨places, g1, g2⟩ := mapM_some_get (fun (f : Field) => (P.info? f.type).map fun i => (f.offset, i.size)) fs.toList hall
        have hplace : ∀ i x, placeOf P t i = some x → (places.toArray[·]?) i = some x := by
          intro i x hx
          unfold placeOf at hx
          rw [hfs] at hx
          simp only at hx
          split at hx
          · rename_i f hfi
            split at hx
            · rename_i n hn
              obtain ⟨ti, hti, rfl⟩ := sizeOfT_some hn
              simp only [Option.some.injEq] at hx; subst hx
              simpa using g2 i f _ hfi (by rw [hti]; rfl)
            · cases hx
          · cases hx
        obtain ⟨cs', k1, k2⟩ := fillA_sound hE hplace hps hzc hf
        refine ⟨.agg cs', ?_, by have := k2.agg; simpa using this⟩
        apply run_build
        unfold Program.built
        simp only [hit, hfs, hzv, g1]
        exact k1
      · rename_i n e hfs
        have hie : ∃ ie, P.info? e = some ie := by
          unfold sizeOfT at hok
          cases hi : P.info? e with
          | none => simp [hi] at hok
          | some ie => exact ⟨ie, rfl⟩
        obtain ⟨ie, hie⟩ := hie
        have hplace : ∀ i x, placeOf P t i = some x → (fun i => some (i * ie.size, ie.size)) i = some x := by
          intro i x hx
          unfold placeOf at hx
          rw [hfs] at hx
          simp only [sizeOfT, hie] at hx
          exact hx
        obtain ⟨cs', k1, k2⟩ := fillA_sound hE hplace hps hzc hf
        refine ⟨.agg cs', ?_, by have := k2.agg; simpa using this⟩
        apply run_build
        unfold Program.built
        simp only [hit, hfs, hzv, hie]
        exact k1
      · cases hok
    · cases hs
  · cases hs

/-! ### Keys of maps -/
theorem checkKey_scalar {t : TypeId} (hk : keyKind P t = true) (e : Bool) (n : Nat) (v : Value) : (Instr.checkKey e (n + 1) t v).run P w = .ok () w := by
  unfold keyKind at hk
  split at hk
  · rename_i k ht
    unfold Instr.checkKey
    simp only [Sem.run_bind, run_underlying_some ht, Result.andThen_ok]; rfl
  · rename_i ht
    unfold Instr.checkKey
    simp only [Sem.run_bind, run_underlying_some ht, Result.andThen_ok]; rfl
  · rename_i ht
    unfold Instr.checkKey
    simp only [Sem.run_bind, run_underlying_some ht, Result.andThen_ok]; rfl
  · cases hk

theorem keyKind_some {t : TypeId} (hk : keyKind P t = true) : ∃ d, P.underlying t = some d ∧ isAggD d = false := by
  unfold keyKind at hk
  split at hk
  · rename_i k ht; exact ⟨_, ht, rfl⟩
  · rename_i ht; exact ⟨_, ht, rfl⟩
  · rename_i ht; exact ⟨_, ht, rfl⟩
  · cases hk

theorem checkKey_sound {t : Nat} {k : AV} (hk : keyOk P t k = true) {v : Value} (hv : VR E ρ k v) (e : Bool) : (Instr.checkKey e 10000 t v).run P w = .ok () w := by
  unfold keyOk at hk
  split at hk
  · rename_i kk ht
    unfold Instr.checkKey
    simp only [Sem.run_bind, run_underlying_some ht, Result.andThen_ok]; rfl
  · rename_i ht
    unfold Instr.checkKey
    simp only [Sem.run_bind, run_underlying_some ht, Result.andThen_ok]; rfl
  · rename_i ht
    unfold Instr.checkKey
    simp only [Sem.run_bind, run_underlying_some ht, Result.andThen_ok]; rfl
  · rename_i len el ht
    split at hk
    · rename_i c
      simp only [Bool.and_eq_true, Nat.beq_eq] at hk
      obtain ⟨⟨h1, h2⟩, h3⟩ := hk
      obtain ⟨xs, rfl, hc⟩ := VR.agg_iff.1 hv
      have hlen := hc.len
      obtain ⟨d, hd, hag⟩ := keyKind_some h1
      split at h2
      · rename_i hs
        obtain ⟨i, hi, hsz⟩ := sizeOfT_some hs
        unfold Instr.checkKey
        simp only [Sem.run_bind, run_underlying_some ht, Result.andThen_ok]
        simp only [Std.Legacy.Range.forIn_eq_forIn_range', Std.Legacy.Range.size, Nat.sub_zero, Nat.add_one_sub_one, Nat.div_one]
        have key : ∀ (n j : Nat), j + n ≤ xs.length → (forIn (List.range' j n) PUnit.unit fun i _ => do
            Instr.checkKey e 9999 el (← part el ⟨xs⟩ (i * (← sizeOf el)))
            pure (ForInStep.yield PUnit.unit)).run P w = .ok PUnit.unit w := by
          intro n
          induction n with
          | zero => intro j _; rfl
          | succ n ih =>
            intro j hj
            rw [List.range'_succ, List.forIn_cons]
            have hget : xs[j * i.size]? = some (xs[j]'(by omega)) := by rw [hsz, Nat.mul_one]; simp
            simp only [Sem.run_bind, run_sizeOf_some hi, Result.andThen_ok, run_part_cell hd hag hget, checkKey_scalar h1, Sem.run_pure]
            exact ih (j + 1) (by omega)
        rw [key len 0 (by omega)]; rfl
      · cases h2
    · cases hk
  · cases hk

end Go.AM
namespace Go.AM
open Go.RowKit (Below)
variable {E : Nat → Value} {G : Nat} {w0 : World} {ρ : Rho} {h : Heap} {w : World} {P : Program}

/-! ### The search for a key -/
theorem sameNow_eq {t : TypeId} {d : TypeDesc} (hd : P.underlying t = some d) {k k' : Value} {r : Bool} (hs : Instr.sameNow d k k' = some r) : (Op.equal t k k').run P w = .ok r w := by
  unfold Op.equal Op.maxDepth
  unfold Instr.sameNow at hs
  split at hs
  · rename_i kk a ka b kb
    split at hs
    · rename_i hk
      simp only [Option.some.injEq] at hs; subst hs; subst hk
      rw [run_equalIn_int w 9999 t _ _ _ _ hd]
    · cases hs
  · simp only [Option.some.injEq] at hs; subst hs
    unfold Op.equalIn
    simp only [Sem.run_bind, run_underlying_some hd, Result.andThen_ok]; rfl
  · simp only [Option.some.injEq] at hs; subst hs
    unfold Op.equalIn
    simp only [Sem.run_bind, run_underlying_some hd, Result.andThen_ok]; rfl
  · cases hs

theorem findNow_asks {t : TypeId} {d : TypeDesc} (hd : P.underlying t = some d) (k : Value) : ∀ (es : List MapEntry) (i : Nat) (r : Option (Nat × Value)), Instr.findNow d k es i = some r → (Instr.findAsking t k es i).run P w = .ok r w := by
  intro es
  induction es with
  | nil => intro i r hs; simp only [Instr.findNow, Option.some.injEq] at hs; subst hs; rfl
  | cons e es ih =>
    intro i r hs
    simp only [Instr.findNow] at hs
    split at hs
    · rename_i he
      simp only [Option.some.injEq] at hs; subst hs
      simp only [Instr.findAsking, Sem.run_bind, sameNow_eq hd he, Result.andThen_ok, if_true, Sem.run_pure]
    · rename_i he
      simp only [Instr.findAsking, Sem.run_bind, sameNow_eq hd he, Result.andThen_ok, Bool.false_eq_true, if_false]
      exact ih _ _ hs
    · cases hs

theorem run_findKey_of {t : TypeId} {d : TypeDesc} (hd : P.underlying t = some d) {k : Value} {es : List MapEntry} {r : Option (Nat × Value)} (ha : (Instr.findAsking t k es).run P w = .ok r w) :
    (Instr.findKey t k es).run P w = .ok r w := by
  unfold Instr.findKey
  simp only [Sem.run_bind, run_underlying_some hd, Result.andThen_ok]
  split
  · rename_i r' hr
    have := findNow_asks (w := w) hd k es 0 r' hr
    rw [ha] at this
    simp only [Result.ok.injEq, and_true] at this
    subst this; rfl
  · exact ha

/-- What a search says: nothing, or the place and the entry. -/
def FoundR (E : Nat → Value) (ρ : Rho) (es : List (AV × AV × Nat)) (ces : List MapEntry) (a : Option (Nat × AV × AV × Nat)) (r : Option (Nat × Value)) : Prop :=
  match a, r with
  | none, none => True
  | some (i, k, v, born), some (j, u) => i = j ∧ es[i]? = some (k, v, born) ∧ ∃ e, ces[i]? = some e ∧ u = e.val ∧ EntR E ρ (k, v, born) e
  | _, _ => False

theorem findKeyA_sound (hr : HeapR E G w0 ρ h w) {t : Nat} {k : AV} {kv : Value} (hk : VR E ρ k kv) {es : List (AV × AV × Nat)} {ces : List MapEntry} (hes : F2 (EntR E ρ) es ces) {a : Option (Nat × AV × AV × Nat)}
    (hs : findKeyA P h t k es 0 = some a) : ∃ r, (Instr.findAsking t kv ces).run P w = .ok r w ∧ FoundR E ρ es ces a r := by
  have key : ∀ (pre : List (AV × AV × Nat)) (cpre : List MapEntry) (es : List (AV × AV × Nat)) (ces : List MapEntry), F2 (EntR E ρ) es ces → pre.length = cpre.length → ∀ a, findKeyA P h t k es pre.length = some a →
      ∃ r, (Instr.findAsking t kv ces cpre.length).run P w = .ok r w ∧ FoundR E ρ (pre ++ es) (cpre ++ ces) a r := by
    intro pre cpre es
    induction es generalizing pre cpre with
    | nil =>
      intro ces hes hl a hs
      cases hes
      simp only [findKeyA, Option.some.injEq] at hs; subst hs
      exact ⟨none, rfl, trivial⟩
    | cons e es ih =>
      intro ces hes hl a hs
      cases hes with
      | @cons _ ce _ ces h1 h2 =>
        obtain ⟨ek, ev, eb⟩ := e
        simp only [findKeyA] at hs
        split at hs
        · rename_i hq
          simp only [Option.some.injEq] at hs; subst hs
          have hq' := eqVal_sound hr hq hk h1.1
          refine ⟨some (cpre.length, ce.val), ?_, ?_⟩
          · simp only [Instr.findAsking, Sem.run_bind, hq', Result.andThen_ok, if_true, Sem.run_pure]
          · exact ⟨hl, by simp, ce, by rw [hl]; simp, rfl, h1⟩
        · rename_i hq
          have hq' := eqVal_sound hr hq hk h1.1
          obtain ⟨r, g1, g2⟩ := ih (pre ++ [(ek, ev, eb)]) (cpre ++ [ce]) ces h2 (by simp [hl]) a (by simpa using hs)
          refine ⟨r, ?_, by simpa using g2⟩
          simp only [Instr.findAsking, Sem.run_bind, hq', Result.andThen_ok, Bool.false_eq_true, if_false]
          simpa using g1
        · cases hs
  have := key [] [] es ces hes rfl a hs
  simpa using this

theorem lookup_sound (hr : HeapR E G w0 ρ h w) {t : Nat} {x k : AV} {ok : Bool} {r : AV} (hs : lookupA P h t x k ok = some r) {v u : Value} (hv : VR E ρ x v) (hu : VR E ρ k u) :
    ∃ z, (Instr.lookup t v u ok).run P w = .ok z w ∧ VR E ρ r z := by
  unfold lookupA at hs
  split at hs
  · rename_i kt et ht
    cases hok : keyOk P kt k <;> rw [hok] at hs <;> simp only [cond_true, cond_false, reduceCtorEq] at hs
    have hkd : ∃ d, P.underlying kt = some d := by
      unfold keyOk at hok
      cases hd : P.underlying kt with
      | none => simp [hd] at hok
      | some d => exact ⟨d, rfl⟩
    obtain ⟨d, hd⟩ := hkd
    split at hs
    · rename_i es clock hm
      have hmap : ∃ ces, F2 (EntR E ρ) es ces ∧ ((v = .map none ∧ ces = []) ∨ ∃ blk, v = .map (some blk) ∧ w.heap[blk]? = some (.map ⟨ces⟩ clock)) := by
        split at hm
        · obtain rfl := hv
          simp only [Option.some.injEq, Prod.mk.injEq] at hm
          obtain ⟨rfl, rfl⟩ := hm
          exact ⟨[], .nil, .inl ⟨rfl, rfl⟩⟩
        · obtain ⟨l, el, rfl⟩ := hv
          obtain ⟨ces, h1, h2⟩ := hr.mapAt el hm
          exact ⟨ces, h2, .inr ⟨_, rfl, h1⟩⟩
        · cases hm
      obtain ⟨ces, hes, hrun⟩ := hmap
      split at hs
      · rename_i fk fv fval fb hf
        simp only [Option.some.injEq] at hs; subst hs
        obtain ⟨fr, g1, g2⟩ := findKeyA_sound hr hu hes hf
        cases fr with
        | none => exact g2.elim
        | some p =>
          obtain ⟨j, pv⟩ := p
          obtain ⟨_, _, e, _, rfl, he⟩ := g2
          refine ⟨if ok then .tuple #[e.val, .bool true] else e.val, ?_, ?_⟩
          · unfold Instr.lookup
            rcases hrun with ⟨rfl, rfl⟩ | ⟨blk, rfl, hblk⟩
            · simp only [Sem.run_bind, run_underlying_some ht, Result.andThen_ok, checkKey_sound hok hu, run_findKey_of hd g1, Sem.run_pure]
            · simp only [Sem.run_bind, run_underlying_some ht, Result.andThen_ok, run_getObj_m hblk, checkKey_sound hok hu, run_findKey_of hd g1, Sem.run_pure]
          · cases ok
            · exact he.2.1
            · exact CL.tup (CL.cons he.2.1 (CL.cons rfl CL.nil))
      · rename_i hf
        split at hs
        · rename_i z hz
          simp only [Option.some.injEq] at hs; subst hs
          obtain ⟨ti, zv, hti, hzv, hzr⟩ := VR.zeroOf (E := E) (ρ := ρ) hz
          obtain ⟨fr, g1, g2⟩ := findKeyA_sound hr hu hes hf
          cases fr with
          | some p => exact g2.elim
          | none =>
            refine ⟨if ok then .tuple #[zv, .bool false] else zv, ?_, ?_⟩
            · unfold Instr.lookup
              rcases hrun with ⟨rfl, rfl⟩ | ⟨blk, rfl, hblk⟩
              · simp only [Sem.run_bind, run_underlying_some ht, Result.andThen_ok, checkKey_sound hok hu, run_findKey_of hd g1, run_zeroValue_some hti hzv, Sem.run_pure]
              · simp only [Sem.run_bind, run_underlying_some ht, Result.andThen_ok, run_getObj_m hblk, checkKey_sound hok hu, run_findKey_of hd g1, run_zeroValue_some hti hzv, Sem.run_pure]
            · cases ok
              · exact hzr
              · exact CL.tup (CL.cons hzr (CL.cons rfl CL.nil))
        · cases hs
      · cases hs
    · cases hs
  · cases hs

/-! ### Least and greatest, unary operators -/
theorem minMax_sound {isMax : Bool} {vals : List AV} {r : AV} (hs : minMaxA isMax vals = some r) {vs : List Value} (hv : F2 (VR E ρ) vals vs) (ts : Array TypeId) (ty : TypeId) :
    ∃ z, (if isMax then Builtin.max_ ts ty ⟨vs⟩ else Builtin.min_ ts ty ⟨vs⟩).run P w = .ok z w ∧ VR E ρ r z := by
  cases vals with
  | nil => simp [minMaxA] at hs
  | cons a as =>
    cases a <;> simp only [minMaxA, reduceCtorEq] at hs
    rename_i k x
    cases hv with
    | @cons _ v _ vs h1 h2 =>
      obtain rfl := h1
      have key : ∀ (as : List AV) (vs : List Value), F2 (VR E ρ) as vs → ∀ x : Int, as.foldl (fun acc v => match acc, v with
          | some (.int k x), .int _ y => some (.int k (bif isMax then (bif intLt x y then y else x) else (bif intLt y x then y else x)))
          | _, _ => none) (some (AV.int k x)) = some r → ∃ z, (vs.foldlM (if isMax then Builtin.max2 else Builtin.min2) (Value.int k x)).run P w = .ok z w ∧ VR E ρ r z := by
        intro as vs hf
        induction hf with
        | nil => intro x hs; simp only [List.foldl_nil, Option.some.injEq] at hs; subst hs; exact ⟨_, rfl, rfl⟩
        | @cons a b as bs hab _ ih =>
          intro x hs
          simp only [List.foldl_cons] at hs
          have hnone : ∀ (l : List AV), l.foldl (fun acc v => match acc, v with
              | some (.int k x), .int _ y => some (.int k (bif isMax then (bif intLt x y then y else x) else (bif intLt y x then y else x)))
              | _, _ => none) (none : Option AV) = none := by
            intro l; induction l with
            | nil => rfl
            | cons _ _ ih => simpa using ih
          cases a
          case int k' y =>
            obtain rfl := hab
            simp only at hs
            obtain ⟨z, g1, g2⟩ := ih _ hs
            refine ⟨z, ?_, g2⟩
            simp only [List.foldlM_cons, Sem.run_bind]
            cases isMax
            · simp only [Bool.false_eq_true, if_false, cond_false] at g1 ⊢
              have : (Builtin.min2 (.int k x) (.int k' y)).run P w = .ok (.int k (bif intLt y x then y else x)) w := by
                simp only [Builtin.min2, Sem.run_pure]
                rw [intLt_eq]
                by_cases hlt : y < x <;> simp [hlt]
              rw [this]; exact g1
            · simp only [if_true, cond_true] at g1 ⊢
              have : (Builtin.max2 (.int k x) (.int k' y)).run P w = .ok (.int k (bif intLt x y then y else x)) w := by
                simp only [Builtin.max2, Sem.run_pure]
                rw [intLt_eq]
                by_cases hlt : x < y
                · simp [hlt]
                · simp [hlt]
              rw [this]; exact g1
          all_goals (simp only at hs; rw [hnone] at hs; cases hs)
      obtain ⟨z, g1, g2⟩ := key as vs h2 x hs
      refine ⟨z, ?_, g2⟩
      cases isMax
      · simpa [Builtin.min_] using g1
      · simpa [Builtin.max_] using g1

theorem unOp_sound {op : UnOp} {x r : AV} (hs : unOpA op x = some r) {v : Value} (hv : VR E ρ x v) : ∃ z, (Op.unary op v).run P w = .ok z w ∧ VR E ρ r z := by
  unfold unOpA at hs
  split at hs
  · obtain rfl := hv
    simp only [Option.some.injEq] at hs; subst hs
    exact ⟨_, rfl, by rw [mkInt_eq, wrapTo_eq]; rfl⟩
  · obtain rfl := hv
    simp only [Option.some.injEq] at hs; subst hs
    exact ⟨_, rfl, by rw [mkBool_eq]; rfl⟩
  · rename_i k n
    obtain rfl := hv
    cases hk : k.signed <;> rw [hk] at hs <;> simp only [cond_true, cond_false, Option.some.injEq] at hs <;> subst hs
    · refine ⟨_, rfl, ?_⟩
      rw [mkInt_eq]
      simp only [hk, Bool.false_eq_true, if_false]
      rfl
    · refine ⟨_, rfl, ?_⟩
      rw [mkInt_eq]
      simp only [hk, if_true]
      rfl
  · cases hs

theorem sliceData_sound {x r : AV} (hs : sliceDataA x = some r) {v : Value} (hv : VR E ρ x v) (ts : Array TypeId) (ty : TypeId) : ∃ z, (Builtin.unsafeSliceData_ ts ty #[v]).run P w = .ok z w ∧ VR E ρ r z := by
  unfold sliceDataA at hs
  split at hs
  · obtain rfl := hv
    simp only [Option.some.injEq] at hs; subst hs
    exact ⟨_, rfl, rfl⟩
  · obtain ⟨l, c, e, rfl, hc⟩ := hv
    have hc : c = _ := hc
    subst hc
    simp only [Option.some.injEq] at hs; subst hs
    exact ⟨_, rfl, ⟨l, e, rfl⟩⟩
  · obtain ⟨l, c, e, rfl, hc1, hc2⟩ := hv
    simp only [Option.some.injEq] at hs; subst hs
    refine ⟨.pointer (some ⟨l.blk, l.base + _, none⟩), ?_, ⟨l, e, rfl⟩⟩
    have hne : c ≠ 0 := by omega
    show ((if c ≠ 0 then _ else _ : Sem Value)).run P w = _
    rw [if_pos hne]; rfl
  · cases hs

end Go.AM
namespace Go.AM
open Go.RowKit (Below)
variable {E : Nat → Value} {G : Nat} {w0 : World} {ρ : Rho} {h : Heap} {w : World} {P : Program}

theorem run_seenAt_cells {a : Addr} {c : Array Value} {e : TypeId} {fr : Nat × Nat} (hc : w.heap[a.block]? = some (.cells c e fr)) : (Conv.seenAt a).run P w = .ok a w := by
  unfold Conv.seenAt
  simp only [Sem.run_bind, run_viewAt_cells hc, Result.andThen_ok, Sem.run_pure]

theorem run_cellsIn_cells {blk : Nat} {c : Array Value} {e : TypeId} {fr : Nat × Nat} (hc : w.heap[blk]? = some (.cells c e fr)) : (cellsIn blk).run P w = .ok (some c.size) w := by
  unfold cellsIn
  simp only [Sem.run_bind, run_shape, shape_cells hc, Result.andThen_ok, Sem.run_pure]

theorem eta_bytes (s : ByteArray) : bstr s.data.toList = s := rfl

theorem convA_sound (hr : HeapR E G w0 ρ h w) {s d : Nat} {x r : AV} (hs : convA P h s d x = some r) {v : Value} (hv : VR E ρ x v) : ∃ z, (convert s d v).run P w = .ok z w ∧ VR E ρ r z := by
  unfold convA at hs
  split at hs
  · rename_i ds k kk n hds hdd
    obtain rfl := hv
    simp only [Option.some.injEq] at hs; subst hs
    refine ⟨.int k (k.wrap n), ?_, by rw [mkInt_eq, wrapTo_eq]; rfl⟩
    unfold convert
    simp only [Sem.run_bind, run_underlying_some hds, run_underlying_some hdd, Result.andThen_ok]
    rfl
  · rename_i ds l n hds hdd
    obtain ⟨hlt, rfl⟩ := hv
    simp only [Option.some.injEq] at hs; subst hs
    refine ⟨.string (bstr (strBytes l n)), ?_, ⟨hlt, rfl⟩⟩
    unfold convert
    simp only [Sem.run_bind, run_underlying_some hds, run_underlying_some hdd, Result.andThen_ok]
    rfl
  · rename_i ds kk n hds hdd
    obtain rfl := hv
    simp only [Option.some.injEq] at hs; subst hs
    refine ⟨.string (Utf8.encode n), ?_, by have := VR.strOf (E := E) (ρ := ρ) (Utf8.encode n).data.toList; exact this⟩
    unfold convert
    simp only [Sem.run_bind, run_underlying_some hds, run_underlying_some hdd, Result.andThen_ok]
    rfl
  · rename_i e hds hdd
    obtain rfl := hv
    split at hs
    · rename_i he
      simp only [Option.some.injEq] at hs; subst hs
      refine ⟨.string .empty, ?_, ⟨by decide, rfl⟩⟩
      unfold convert
      simp only [Sem.run_bind, run_underlying_some hds, run_underlying_some hdd, Result.andThen_ok, run_underlying_some he]
      rfl
    · cases hs
  · rename_i e hds hdd
    obtain ⟨a, c, rfl⟩ := hv
    split at hs
    · rename_i he
      simp only [Option.some.injEq] at hs; subst hs
      refine ⟨.string .empty, ?_, ⟨by decide, rfl⟩⟩
      unfold convert
      simp only [Sem.run_bind, run_underlying_some hds, run_underlying_some hdd, Result.andThen_ok, run_underlying_some he]
      rfl
    · cases hs
  · rename_i e b off len cap z hds hdd
    obtain ⟨l, c, el, rfl, _⟩ := hv
    split at hs
    · rename_i he
      split at hs
      · rename_i ch hch
        obtain ⟨xs, h1, h2, h3⟩ := readCells_sound hr el hch
        obtain ⟨bs, g1, g2⟩ := bytesStr_bytes h1 (pre := []) hs
        subst g2
        refine ⟨.string (bstr bs), ?_, VR.strOf _⟩
        unfold convert
        simp only [Sem.run_bind, run_underlying_some hds, run_underlying_some hdd, Result.andThen_ok, run_underlying_some he]
        exact run_bytesToString g1 h2 h3
      · cases hs
    · cases hs
  · rename_i t b off hds hdd
    obtain ⟨l, el, rfl⟩ := hv
    split at hs
    · rename_i row n e opn fz mk ro m hat hsz
      cases hb : Nat.blt off n <;> rw [hb] at hs <;> simp only [cond_true, cond_false, Option.some.injEq, reduceCtorEq] at hs
      subst hs
      simp only [Nat.blt_eq] at hb
      obtain ⟨c, e', lo, hi, g1, g2, g3, _, _⟩ := hr.cellsAny el hat
      obtain ⟨ti, hti, hts⟩ := sizeOfT_some hsz
      refine ⟨_, ?_, ⟨l, el, rfl⟩⟩
      unfold convert Conv.unsafePointer
      have g1' : w.heap[(⟨l.blk, l.base + off, none⟩ : Addr).block]? = some (.cells c e' (lo, hi)) := g1
      simp only [Sem.run_bind, run_underlying_some hds, run_underlying_some hdd, Result.andThen_ok, run_seenAt_cells g1', run_cellsIn_cells g1, run_sizeOf_some hti, hts]
      have hlt : ¬ (l.base + off ≥ c.size) := by omega
      simp [hlt]
    · cases hs
  · rename_i t b off hds hdd
    obtain ⟨l, el, rfl⟩ := hv
    split at hs
    · rename_i row n e opn fz mk ro m hat hsz
      cases hb : (!opn && !ro && liesAt P P.depth e (n / P.cellsOf e) off t 1) <;> rw [hb] at hs <;> simp only [cond_true, cond_false, Option.some.injEq, reduceCtorEq] at hs
      subst hs
      simp only [Bool.and_eq_true, Bool.not_eq_true'] at hb
      obtain ⟨⟨hb1, rfl⟩, hb2⟩ := hb
      obtain ⟨c, lo, hi, g1, g2, g3, g4, _, _⟩ := hr.cellsAt el hat
      obtain ⟨hbase, hn⟩ := g4 hb1
      obtain ⟨ti, hti, hts⟩ := sizeOfT_some hsz
      refine ⟨_, ?_, ⟨l, el, rfl⟩⟩
      unfold convert Conv.unsafePointer
      have g1' : w.heap[(⟨l.blk, l.base + off, none⟩ : Addr).block]? = some (.cells c e (lo, hi)) := g1
      have hva : (variablesAt ⟨l.blk, l.base + off, none⟩ t 1).run P w = .ok true w := by
        unfold variablesAt
        simp only [Sem.run_bind, run_program, Result.andThen_ok, run_shape, shape_cells g1, Sem.run_pure]
        rw [g2, ← hn, hbase, Nat.zero_add, hb2]
      simp only [Sem.run_bind, run_underlying_some hds, run_underlying_some hdd, Result.andThen_ok, run_seenAt_cells g1', run_sizeOf_some hti, hva]
      simp
    · cases hs
  · cases hs

/-! ### The last step of a range over a map -/
theorem entry_sound (hr : HeapR E G w0 ρ h w) {b : Nat} {m since last : Nat} {seen : List Nat} (hat : h.at b = .mit (some m) since seen last) {es : List (AV × AV × Nat)} {clock stamp : Nat} (hm : mapAt h m = some (es, clock))
    (hst : seen.getLast? = some stamp) (hcl : (Nat.beq clock last && Nat.blt stamp BOGUS) = true) {e : AV × AV × Nat} (hf : es.find? (fun e => Nat.beq e.2.2 stamp) = some e) {v : Value} (hv : VR E ρ (.ptr b 0) v) :
    ∃ z, (Instr.entry v).run P w = .ok z w ∧ VR E ρ (.tup (.cons e.1 (.cons e.2.1 .nil))) z := by
  obtain ⟨l, el, rfl⟩ := hv
  obtain ⟨o, h1, h2⟩ := hr.obj b l el
  rw [hat] at h2
  obtain ⟨hb0, m', sn, rfl, hsn, l', el', rfl⟩ := h2
  obtain ⟨ces, g1, g2⟩ := hr.mapAt el' hm
  simp only [Bool.and_eq_true, Nat.beq_eq] at hcl
  obtain ⟨hcl, hbg⟩ := hcl
  have hbg' : stamp < BOGUS := by simpa [Nat.blt_eq] using hbg
  have hfind : ∃ ce, ces.find? (fun e => e.born == stamp) = some ce ∧ EntR E ρ e ce := by
    clear hm g1
    induction g2 with
    | nil => simp at hf
    | @cons a c as cs hac _ ih =>
      simp only [List.find?_cons] at hf ⊢
      have hb : (c.born == stamp) = Nat.beq a.2.2 stamp := by
        rw [hac.2.2, Bool.eq_iff_iff]; simp [Nat.beq_eq]
      rw [hb]
      split at hf
      · rename_i hq
        simp only [Option.some.injEq] at hf; subst hf
        exact ⟨c, rfl, hac⟩
      · rename_i hq
        exact ih hf
  obtain ⟨ce, hce, her⟩ := hfind
  refine ⟨.tuple #[ce.key, ce.val], ?_, CL.tup (CL.cons her.1 (CL.cons her.2.1 CL.nil))⟩
  unfold Instr.entry
  rw [hb0]
  have hget : (getObj l.blk).run P w = .ok (.mapIter (some l'.blk) since ⟨sn⟩ last) w := by simp [getObj, Sem.run, h1]
  simp only [Nat.add_zero, Sem.run_bind, hget, Result.andThen_ok]
  have hback : (⟨sn⟩ : Array Nat).back? = some stamp := by simpa using hsn.2.2 stamp hbg' hst
  simp only [hback, Sem.run_bind, run_getObj_m g1, Result.andThen_ok]
  have hne : (clock != last) = false := by simp [hcl]
  simp only [hne, Bool.false_eq_true, if_false]
  have hfa : (⟨ces⟩ : Array MapEntry).find? (fun e => e.born == stamp) = some ce := by simpa using hce
  simp only [hfa, Sem.run_pure]

end Go.AM
namespace Go.AM
open Go.RowKit (Below)
variable {E : Nat → Value} {G : Nat} {w0 : World} {ρ : Rho} {h : Heap} {w : World} {P : Program}

theorem zipParts_rel : ∀ {is : List Nat} {as : List AV} {xs : List Operand} {ev : Operand → Value}, F2 (VR E ρ) as (xs.map ev) → is.length = xs.length → F2 (PartR E ρ) (zipParts is as) ((is.zip xs).map fun (p : Nat × Operand) => (p.1, ev p.2)) := by
  intro is
  induction is with
  | nil => intro as xs ev hf hl; cases xs with
    | nil => cases as <;> exact .nil
    | cons => simp at hl
  | cons i is ih =>
    intro as xs ev hf hl
    cases xs with
    | nil => simp at hl
    | cons x xs =>
      obtain ⟨a, as', rfl, h1, h2⟩ := F2.inv_cons hf
      simp only [zipParts, List.zip_cons_cons, List.map_cons]
      exact .cons ⟨rfl, h1⟩ (ih h2 (by simpa using hl))

theorem zip_fst_snd (l : List (Nat × Operand)) : (l.map (·.1)).zip (l.map (·.2)) = l := by
  induction l with
  | nil => rfl
  | cons a l ih => simp [ih]

theorem parts_rel {parts : Array (Nat × Operand)} {vals : List AV} {ev : Operand → Value} (hv : F2 (VR E ρ) vals ((parts.toList.map (·.2)).map ev)) :
    F2 (PartR E ρ) (zipParts (parts.toList.map (·.1)) vals) (parts.map fun (p : Nat × Operand) => (p.1, ev p.2)).toList := by
  have := zipParts_rel (is := parts.toList.map (·.1)) hv (by simp)
  rw [zip_fst_snd] at this
  simpa using this

theorem F2.take {α β : Type} {R : α → β → Prop} {as : List α} {bs : List β} (h : F2 R as bs) : ∀ n, F2 R (as.take n) (bs.take n) := by
  induction h with
  | nil => intro n; simp; exact .nil
  | cons h _ ih => intro n; cases n with
    | zero => simp; exact .nil
    | succ n => simp; exact .cons h (ih n)
theorem F2.drop {α β : Type} {R : α → β → Prop} {as : List α} {bs : List β} (h : F2 R as bs) : ∀ n, F2 R (as.drop n) (bs.drop n) := by
  induction h with
  | nil => intro n; simp; exact .nil
  | cons h t ih => intro n; cases n with
    | zero => simp; exact .cons h t
    | succ n => simpa using ih n

theorem F2.left_one {α β : Type} {R : α → β → Prop} {a : α} {bs : List β} (h : F2 R [a] bs) : ∃ b, bs = [b] ∧ R a b := by
  cases h with
  | cons h t => cases t; exact ⟨_, rfl, h⟩
theorem F2.left_two {α β : Type} {R : α → β → Prop} {a c : α} {bs : List β} (h : F2 R [a, c] bs) : ∃ b d, bs = [b, d] ∧ R a b ∧ R c d := by
  cases h with
  | cons h t => obtain ⟨d, rfl, h2⟩ := F2.left_one t; exact ⟨_, _, rfl, h, h2⟩
theorem F2.left_three {α β : Type} {R : α → β → Prop} {a c e : α} {bs : List β} (h : F2 R [a, c, e] bs) : ∃ b d f, bs = [b, d, f] ∧ R a b ∧ R c d ∧ R e f := by
  cases h with
  | cons h t => obtain ⟨d, f, rfl, h2, h3⟩ := F2.left_two t; exact ⟨_, _, _, rfl, h, h2, h3⟩

theorem run_v (s : Sem Value) {x : Value} {w' : World} (hs : s.run P w = .ok x w') : (do pure (Next.value (← s)) : Sem Next).run P w = .ok (.value x) w' := by
  simp only [Sem.run_bind, hs, Result.andThen_ok, Sem.run_pure]

/-- An operation that only reads: the model's run hands back a value that is the machine's, and leaves the world. -/
theorem readA_sound (hE : ∀ i, (E i).oneCell' = true) (hr : HeapR E G w0 ρ h w) {o : Oper} {vals : List AV} {r : AV} (hs : readA P h o vals = some r) {ev : Operand → Value} (hv : F2 (VR E ρ) vals (o.op.operands.toList.map ev)) :
    ∃ v, (execOp ev o).run P w = .ok (.value v) w ∧ VR E ρ r v := by
  obtain ⟨dst, op, ty, pos, after, guard⟩ := o
  cases op
  case move x =>
    obtain ⟨a, rfl, ha⟩ := F2.inv_one (show F2 (VR E ρ) vals [ev x] from hv)
    simp only [readA, Option.some.injEq] at hs; subst hs
    exact ⟨ev x, rfl, ha⟩
  case assign x =>
    obtain ⟨a, rfl, ha⟩ := F2.inv_one (show F2 (VR E ρ) vals [ev x] from hv)
    simp only [readA, Option.some.injEq] at hs; subst hs
    exact ⟨ev x, rfl, ha⟩
  case pick c x y =>
    obtain ⟨a, b, d, rfl, ha, hb, hd⟩ := F2.inv_three (show F2 (VR E ρ) vals [ev c, ev x, ev y] from hv)
    simp only [readA] at hs
    split at hs
    · simp only [Option.some.injEq] at hs; subst hs
      have hc : ev c = .bool true := ha
      exact ⟨ev x, by simp only [execOp, hc, asBool, Sem.run_bind, Sem.run_pure, Result.andThen_ok, if_true], hb⟩
    · simp only [Option.some.injEq] at hs; subst hs
      have hc : ev c = .bool false := ha
      exact ⟨ev y, by simp only [execOp, hc, asBool, Sem.run_bind, Sem.run_pure, Result.andThen_ok, Bool.false_eq_true, if_false], hd⟩
    · cases hs
  case load t x =>
    obtain ⟨a, rfl, ha⟩ := F2.inv_one (show F2 (VR E ρ) vals [ev x] from hv)
    cases a <;> simp only [readA, reduceCtorEq] at hs
    obtain ⟨l, e, hx⟩ := ha
    obtain ⟨v, h1, h2⟩ := loadVar_sound (P := P) hr e hs
    refine ⟨v, run_v _ ?_, h2⟩
    rw [hx]
    simp only [Instr.loadAt, Instr.sureAddr, Sem.run_bind, Sem.run_pure, Result.andThen_ok, h1]
  case nilCheck x =>
    obtain ⟨a, rfl, ha⟩ := F2.inv_one (show F2 (VR E ρ) vals [ev x] from hv)
    simp only [readA] at hs
    split at hs
    · simp only [Option.some.injEq] at hs; subst hs
      obtain ⟨l, e, hx⟩ := ha
      refine ⟨ev x, ?_, ⟨l, e, hx⟩⟩
      simp only [execOp, hx, Sem.run_pure]
    · simp only [Option.some.injEq] at hs; subst hs
      have ha' := ha
      obtain ⟨xs, ys, hx, _⟩ := ha
      refine ⟨ev x, ?_, ha'⟩
      simp only [execOp, hx, Sem.run_pure]
    · simp only [Option.some.injEq] at hs; subst hs
      obtain ⟨l, e, hx⟩ := ha
      refine ⟨ev x, ?_, ⟨l, e, hx⟩⟩
      simp only [execOp, hx, Sem.run_pure]
    · simp only [Option.some.injEq] at hs; subst hs
      obtain ⟨y, hx, hy⟩ := ha
      refine ⟨ev x, ?_, ⟨y, hx, hy⟩⟩
      simp only [execOp, hx, Sem.run_pure]
    · cases hs
  case binOp op t x y u =>
    obtain ⟨a, b, rfl, ha, hb⟩ := F2.inv_two (show F2 (VR E ρ) vals [ev x, ev y] from hv)
    simp only [readA] at hs
    split at hs
    · rename_i k n k' m
      have hx : ev x = .int k n := ha
      have hy : ev y = .int k' m := hb
      have hsh : (op = .shl ∨ op = .shr) ∨ (op ≠ .shl ∧ op ≠ .shr) := by cases op <;> simp
      rcases hsh with hsh | ⟨n1, n2⟩
      · have hs' : shiftOp op k n m = some r := by rcases hsh with rfl | rfl <;> exact hs
        obtain ⟨v, h1, h2⟩ := shiftOp_sound (E := E) (ρ := ρ) (w := w) (P := P) (k' := k') hs' t
        refine ⟨v, run_v _ ?_, h2⟩
        simp only [Sem.run_bind, hx, hy, run_eqGuard_int, Result.andThen_ok, h1]
      · have hs' : (bif decide (k = k') then intOp op k n m else none) = some r := by cases op <;> first | exact hs | (exact absurd rfl n1) | (exact absurd rfl n2)
        cases hk : decide (k = k') <;> rw [hk] at hs' <;> simp only [cond_true, cond_false, reduceCtorEq] at hs'
        simp only [decide_eq_true_eq] at hk
        subst hk
        obtain ⟨v, h1, h2⟩ := intOp_sound (E := E) (ρ := ρ) (w := w) (P := P) hs' t
        refine ⟨v, run_v _ ?_, h2⟩
        simp only [Sem.run_bind, hx, hy, run_eqGuard_int, Result.andThen_ok, h1]
    · rename_i la a' lb b'
      obtain ⟨l1, hx⟩ := ha
      obtain ⟨l2, hy⟩ := hb
      obtain ⟨v, h1, h2⟩ := strOp_sound (E := E) (ρ := ρ) (w := w) (P := P) hs l1 l2 t
      refine ⟨v, run_v _ ?_, h2⟩
      simp only [Sem.run_bind, hx, hy, run_eqGuard_string, Result.andThen_ok]
      exact h1
    · cases hg : guardOk P t x y a b <;> rw [hg] at hs <;> simp only [cond_true, cond_false, reduceCtorEq] at hs
      split at hs
      · split at hs
        · rename_i r' hq
          simp only [Option.some.injEq] at hs; subst hs
          refine ⟨.bool r', run_v _ (eqOp_sound hr hg hq ha hb).1, by rw [mkBool_eq]; rfl⟩
        · cases hs
      · split at hs
        · rename_i r' hq
          simp only [Option.some.injEq] at hs; subst hs
          refine ⟨.bool (!r'), run_v _ (eqOp_sound hr hg hq ha hb).2, by rw [mkBool_eq]; rfl⟩
        · cases hs
      · cases hs
  case unOp op t x =>
    obtain ⟨a, rfl, ha⟩ := F2.inv_one (show F2 (VR E ρ) vals [ev x] from hv)
    simp only [readA] at hs
    obtain ⟨v, h1, h2⟩ := unOp_sound (w := w) (P := P) hs ha
    exact ⟨v, run_v _ h1, h2⟩
  case convert s d x =>
    obtain ⟨a, rfl, ha⟩ := F2.inv_one (show F2 (VR E ρ) vals [ev x] from hv)
    simp only [readA] at hs
    obtain ⟨v, h1, h2⟩ := convA_sound (P := P) hr hs ha
    exact ⟨v, run_v _ h1, h2⟩
  case makeInterface t x =>
    obtain ⟨a, rfl, ha⟩ := F2.inv_one (show F2 (VR E ρ) vals [ev x] from hv)
    simp only [readA] at hs
    split at hs
    · cases hs
    · rename_i d hne hd
      simp only [Option.some.injEq] at hs; subst hs
      refine ⟨.iface t (ev x), run_v _ ?_, ⟨_, rfl, ha⟩⟩
      unfold Instr.makeInterface
      simp only [Sem.run_bind, run_underlying_some hd, Result.andThen_ok]
      cases d <;> first | rfl | (exact absurd hd (hne _))
    · cases hs
  case makeFunc fn first captured =>
    simp only [readA] at hs
    split at hs
    · rename_i f
      simp only [Option.some.injEq] at hs; subst hs
      have hv' : F2 (VR E ρ) vals ((first.toList ++ captured.toList).map ev) := by simpa [Op.operands] using hv
      have h1 := hv'.take first.size
      have h2 := hv'.drop first.size
      have e1 : ((first.toList ++ captured.toList).map ev).take first.size = (first.map ev).toList := by simp
      have e2 : ((first.toList ++ captured.toList).map ev).drop first.size = (captured.map ev).toList := by simp
      rw [e1] at h1; rw [e2] at h2
      have c1 := CL.ofList h1
      have c2 := CL.ofList h2
      exact ⟨.func (.func f) (first.map ev) (captured.map ev), rfl, ⟨_, _, rfl, c1.1, c2.1, c1.2, c2.2⟩⟩
    · cases hs
  case slice t x low high max =>
    simp only [Op.operands] at hv
    cases low <;> cases high <;> cases max <;> simp only [Option.toArray, List.map_cons, List.map_nil, Array.toList_append, List.cons_append, List.nil_append, List.append_nil] at hv
    · obtain ⟨a, rfl, ha⟩ := F2.inv_one hv
      simp only [readA] at hs
      obtain ⟨v, h1, h2⟩ := sliceA_sound (w := w) hs ha (lo := none) (hi := none) (mx := none) trivial trivial trivial (by simp)
      exact ⟨v, run_v _ h1, h2⟩
    · obtain ⟨a, b, rfl, ha, hb⟩ := F2.inv_two hv
      simp only [readA, reduceCtorEq] at hs
    · obtain ⟨a, b, rfl, ha, hb⟩ := F2.inv_two hv
      simp only [readA] at hs
      obtain ⟨v, h1, h2⟩ := sliceA_sound (w := w) hs ha (lo := none) (hi := some _) (mx := none) trivial hb trivial (by simp)
      exact ⟨v, run_v _ h1, h2⟩
    · obtain ⟨a, b, c, rfl, ha, hb, hc⟩ := F2.inv_three hv
      simp only [readA] at hs
      obtain ⟨v, h1, h2⟩ := sliceA_sound (w := w) hs ha (lo := none) (hi := some _) (mx := some _) trivial hb hc (by simp)
      exact ⟨v, run_v _ h1, h2⟩
    · obtain ⟨a, b, rfl, ha, hb⟩ := F2.inv_two hv
      simp only [readA] at hs
      obtain ⟨v, h1, h2⟩ := sliceA_sound (w := w) hs ha (lo := some _) (hi := none) (mx := none) hb trivial trivial (by simp)
      exact ⟨v, run_v _ h1, h2⟩
    · obtain ⟨a, b, c, rfl, ha, hb, hc⟩ := F2.inv_three hv
      simp only [readA, reduceCtorEq] at hs
    · obtain ⟨a, b, c, rfl, ha, hb, hc⟩ := F2.inv_three hv
      simp only [readA] at hs
      obtain ⟨v, h1, h2⟩ := sliceA_sound (w := w) hs ha (lo := some _) (hi := some _) (mx := none) hb hc trivial (by simp)
      exact ⟨v, run_v _ h1, h2⟩
    · obtain ⟨a, as, rfl, ha, hv⟩ := F2.inv_cons hv
      obtain ⟨b, c, d, rfl, hb, hc, hd⟩ := F2.inv_three hv
      simp only [readA] at hs
      obtain ⟨v, h1, h2⟩ := sliceA_sound (w := w) hs ha (lo := some _) (hi := some _) (mx := some _) hb hc hd (by simp)
      exact ⟨v, run_v _ h1, h2⟩
  case sliceToArrayPointer t x =>
    obtain ⟨a, rfl, ha⟩ := F2.inv_one (show F2 (VR E ρ) vals [ev x] from hv)
    cases a
    case slice b off len cap esz =>
      simp only [readA] at hs
      split at hs
      · rename_i n e ht
        cases hb : Nat.ble n len <;> rw [hb] at hs <;> simp only [cond_true, cond_false, reduceCtorEq, Option.some.injEq] at hs
        subst hs
        obtain ⟨l, c, el, hx, _⟩ := ha
        have hle : ¬ len < n := by
          have : n ≤ len := by simpa [Nat.ble_eq] using hb
          omega
        refine ⟨.pointer (some ⟨l.blk, l.base + off, none⟩), run_v _ ?_, ⟨l, el, rfl⟩⟩
        show (Instr.arrayAt t (ev x)).run P w = _
        rw [hx]
        unfold Instr.arrayAt
        simp only [Sem.run_bind, run_underlying_some ht, Result.andThen_ok, hle, if_false, Sem.run_pure]
      · cases hs
    all_goals (simp only [readA, reduceCtorEq] at hs)
  case fieldAddr s x f =>
    obtain ⟨a, rfl, ha⟩ := F2.inv_one (show F2 (VR E ρ) vals [ev x] from hv)
    cases a <;> simp only [readA, reduceCtorEq] at hs
    split at hs
    · rename_i o t hf
      split at hs
      · rename_i n hn
        simp only [Option.some.injEq] at hs; subst hs
        obtain ⟨v, h1, h2⟩ := fieldAddr_sound (w := w) hf hn ha
        exact ⟨v, run_v _ h1, h2⟩
      · cases hs
    · cases hs
  case field s x f =>
    obtain ⟨a, rfl, ha⟩ := F2.inv_one (show F2 (VR E ρ) vals [ev x] from hv)
    cases a <;> simp only [readA, reduceCtorEq] at hs
    split at hs
    · rename_i o t hf
      obtain ⟨v, h1, h2⟩ := field_sound (w := w) hf hs ha
      exact ⟨v, run_v _ h1, h2⟩
    · cases hs
  case indexAddr t x i =>
    obtain ⟨a, b, rfl, ha, hb⟩ := F2.inv_two (show F2 (VR E ρ) vals [ev x, ev i] from hv)
    simp only [readA] at hs
    obtain ⟨v, h1, h2⟩ := indexAddr_sound (w := w) hs ha hb
    exact ⟨v, run_v _ h1, h2⟩
  case index t x i =>
    obtain ⟨a, b, rfl, ha, hb⟩ := F2.inv_two (show F2 (VR E ρ) vals [ev x, ev i] from hv)
    simp only [readA] at hs
    obtain ⟨v, h1, h2⟩ := index_sound (w := w) hs ha hb
    exact ⟨v, run_v _ h1, h2⟩
  case lookup t x k ok =>
    obtain ⟨a, b, rfl, ha, hb⟩ := F2.inv_two (show F2 (VR E ρ) vals [ev x, ev k] from hv)
    simp only [readA] at hs
    obtain ⟨v, h1, h2⟩ := lookup_sound hr hs ha hb
    exact ⟨v, run_v _ h1, h2⟩
  case build t parts =>
    simp only [readA] at hs
    have hv' : F2 (VR E ρ) vals ((parts.toList.map (·.2)).map ev) := by simpa [Op.operands] using hv
    obtain ⟨v, h1, h2⟩ := buildA_sound (P := P) (w := w) hE (parts_rel hv') hs
    exact ⟨v, run_v _ h1, h2⟩
  case extract x i =>
    obtain ⟨a, rfl, ha⟩ := F2.inv_one (show F2 (VR E ρ) vals [ev x] from hv)
    cases a <;> simp only [readA, reduceCtorEq] at hs
    obtain ⟨xs, hx, hc⟩ := VR.tup_iff.1 ha
    obtain ⟨v, h1, h2⟩ := hc.nth hs
    refine ⟨v, run_v _ ?_, h2⟩
    rw [hx]
    have : (⟨xs⟩ : Array Value)[i]? = some v := by simpa using h1
    simp only [Instr.extract, this, Sem.run_pure]
  case call c =>
    obtain ⟨callee, args, argTypes⟩ := c
    cases callee
    case value f => simp only [readA, reduceCtorEq] at hs
    case invoke rcv m => simp only [readA, reduceCtorEq] at hs
    case builtin b =>
      have hv' : F2 (VR E ρ) vals (args.toList.map ev) := by simpa [Op.operands, Call.operands] using hv
      simp only [readA] at hs
      obtain ⟨ats⟩ := argTypes
      simp only at hs
      have hb : execOp ev { dst := dst, op := .call ⟨.builtin b, args, ⟨ats⟩⟩, type := ty, pos := pos, after := after, guard := guard } =
          builtin b ⟨ats⟩ ty (args.map fun | .const _ => true | _ => false) (args.map ev) := rfl
      rw [hb]
      have hm : args.map ev = ⟨args.toList.map ev⟩ := by apply Array.ext'; simp
      rw [hm]
      split at hs
      · rename_i t ts x
        obtain ⟨v, h1, h2⟩ := F2.left_one hv'
        obtain ⟨z, g1, g2⟩ := len_sound (P := P) hr hs h2 ts ty
        exact ⟨z, by rw [h1]; exact run_v _ g1, g2⟩
      · rename_i t ts x
        obtain ⟨v, h1, h2⟩ := F2.left_one hv'
        obtain ⟨z, g1, g2⟩ := cap_sound (P := P) (w := w) hs h2 ts ty
        exact ⟨z, by rw [h1]; exact run_v _ g1, g2⟩
      · obtain ⟨z, g1, g2⟩ := minMax_sound (P := P) (w := w) hs hv' ⟨ats⟩ ty
        exact ⟨z, run_v _ g1, g2⟩
      · obtain ⟨z, g1, g2⟩ := minMax_sound (P := P) (w := w) hs hv' ⟨ats⟩ ty
        exact ⟨z, run_v _ g1, g2⟩
      · obtain ⟨v, h1, h2⟩ := F2.left_one hv'
        obtain ⟨z, g1, g2⟩ := sliceData_sound (P := P) (w := w) hs h2 ⟨ats⟩ ty
        exact ⟨z, by rw [h1]; exact run_v _ g1, g2⟩
      · cases hs
  case entry x =>
    obtain ⟨a, rfl, ha⟩ := F2.inv_one (show F2 (VR E ρ) vals [ev x] from hv)
    cases a
    case ptr b off =>
      cases off with
      | succ off => simp only [readA, reduceCtorEq] at hs
      | zero =>
        simp only [readA] at hs
        split at hs
        · rename_i m since seen last hat
          split at hs
          · rename_i es clock stamp hm hst
            cases hcl : (Nat.beq clock last && Nat.blt stamp BOGUS) <;> rw [hcl] at hs <;> simp only [cond_true, cond_false, reduceCtorEq] at hs
            split at hs
            · rename_i e hf
              simp only [Option.some.injEq] at hs; subst hs
              obtain ⟨z, g1, g2⟩ := entry_sound (P := P) hr hat hm hst hcl hf ha
              exact ⟨z, run_v _ g1, g2⟩
            · cases hs
          · cases hs
        · cases hs
    all_goals (simp only [readA, reduceCtorEq] at hs)
  all_goals (simp only [readA, reduceCtorEq] at hs)

end Go.AM

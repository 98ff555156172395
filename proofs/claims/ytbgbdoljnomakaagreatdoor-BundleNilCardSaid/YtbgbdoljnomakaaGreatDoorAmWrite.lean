/- Each making and writing operation of the abstract machine answers as the model's. -/
import Derived.Test.YtbgbdoljnomakaaGreatDoorAmRead
import Derived.Laws.Append
import Derived.Laws.Externs
import Derived.KernelRfl
namespace Go.AM
open Go.RowKit (Below)
variable {E : Nat → Value} {G : Nat} {w0 : World} {ρ : Rho} {h : Heap} {w : World} {P : Program}

theorem flatten_get (zs : List Value) : ∀ (n i : Nat), i < n * zs.length → (List.replicate n zs).flatten[i]? = zs[i % zs.length]? := by
  intro n
  induction n with
  | zero => intro i hi; simp at hi
  | succ n ih =>
    intro i hi
    rw [List.replicate_succ, List.flatten_cons]
    rw [Nat.succ_mul] at hi
    rcases Nat.lt_or_ge i zs.length with hlt | hge
    · rw [List.getElem?_append_left hlt, Nat.mod_eq_of_lt hlt]
    · rw [List.getElem?_append_right hge, ih (i - zs.length) (by omega), Nat.mod_eq_sub_mod hge]

theorem flatten_len (zs : List Value) (n : Nat) : (List.replicate n zs).flatten.length = n * zs.length := by
  induction n with
  | zero => simp
  | succ n ih => rw [List.replicate_succ, List.flatten_cons, List.length_append, ih, Nat.succ_mul]; omega

theorem zeros_eq (z : Array Value) (n s : Nat) (hs : z.size = s) : ((Array.range (n * s)).map (fun i => z[i % z.size]!)).toList = (List.replicate n z.toList).flatten := by
  apply List.ext_getElem?
  intro i
  rcases Nat.lt_or_ge i (n * s) with hlt | hge
  · have hl : z.toList.length = s := by simpa using hs
    rw [flatten_get _ _ _ (by rw [hl]; exact hlt)]
    have hs0 : 0 < s := by
      rcases Nat.eq_zero_or_pos s with h0 | h0
      · subst h0; simp at hlt
      · exact h0
    have hm : i % s < z.size := by rw [hs]; exact Nat.mod_lt _ hs0
    rw [hl]
    simp only [Array.getElem?_toList, Array.getElem?_map, Array.getElem?_range, hs, hlt, if_true, Option.map_some]
    rw [Array.getElem?_eq_getElem hm]
    simp [hm]
  · have e1 : (((Array.range (n * s)).map (fun i => z[i % z.size]!)).toList)[i]? = none := by
      rw [List.getElem?_eq_none]; simp; exact hge
    have e2 : ((List.replicate n z.toList).flatten)[i]? = none := by
      rw [List.getElem?_eq_none]; rw [flatten_len]; simpa [hs] using hge
    rw [e1, e2]

theorem CL.repeatC {z : AV} {zs : List Value} (hz : CL E ρ z zs) : ∀ n, CL E ρ (repeatC z n) (List.replicate n zs).flatten
  | 0 => by simpa [AM.repeatC] using CL.nil
  | n + 1 => by
    rw [List.replicate_succ, List.flatten_cons]
    exact hz.append (CL.repeatC hz n)

/-- What the model does at an operation that makes one object. -/
def Made (E : Nat → Value) (ρ : Rho) (P : Program) (n : New) (s : Sem Next) (w : World) : Prop :=
  ∃ (co : Obj) (size : Nat) (v : Value) (w1 : World), s.run P w = .ok (.value v) (w1.alloc co) ∧ (w1 = w ∨ w1 = w.drew) ∧ ObjR E ρ n.obj ⟨w.heap.size, 0, size⟩ co ∧
    ∀ (ρ' : Rho) (b : Nat), ρ' b = some ⟨w.heap.size, 0, size⟩ → VR E ρ' (n.val b) v

theorem made_ptr {c : AV} {t : Nat} {o : AObj} (hn : newCells c t false 0 false = some o) {cs : Array Value} (hc : CL E ρ c cs.toList) {s : Sem Next}
    (hs : s.run P w = .ok (.value (.pointer (some ⟨w.heap.size, 0, none⟩))) (w.alloc (.cells cs t))) : Made E ρ P (.ptr o) s w := by
  refine ⟨.cells cs t, cs.size, _, w, hs, .inl rfl, ?_, ?_⟩
  · have := newCells_rel (ys := []) (blk := w.heap.size) (lo := 0) (hi := 0) hn hc (fun _ => rfl) (Nat.le_refl _) (fun p h1 h2 => by omega)
    show ObjR E ρ o _ _
    simpa using this
  · intro ρ' b e
    exact ⟨_, e, rfl⟩

theorem made_slice {c : AV} {t : Nat} {o : AObj} (hn : newCells c t false 0 false = some o) {cs : Array Value} (hc : CL E ρ c cs.toList) {s : Sem Next} {len cap : Nat}
    (hs : s.run P w = .ok (.value (.slice (some ⟨w.heap.size, 0, none⟩) len cap)) (w.alloc (.cells cs t))) : Made E ρ P (.slice o len cap 0) s w := by
  refine ⟨.cells cs t, cs.size, _, w, hs, .inl rfl, ?_, ?_⟩
  · have := newCells_rel (ys := []) (blk := w.heap.size) (lo := 0) (hi := 0) hn hc (fun _ => rfl) (Nat.le_refl _) (fun p h1 h2 => by omega)
    show ObjR E ρ o _ _
    simpa using this
  · intro ρ' b e
    exact ⟨_, cap, e, rfl, rfl⟩

theorem run_newVar (t : TypeId) (v : Value) : (newVar t v).run P w = .ok ⟨w.heap.size, 0, none⟩ (w.alloc (.cells v.cells t)) := rfl

theorem strCells_rel (len n : Nat) : ∀ (k i : Nat), i + k ≤ len → CL E ρ (strCells len n k i) (((strBytes len n).drop i).take k |>.map fun b => .int .u8 (b.toNat : Int)) := by
  intro k
  induction k with
  | zero => intro i _; simpa [strCells] using CL.nil
  | succ k ih =>
    intro i hi
    have hlt : i < (strBytes len n).length := by rw [strBytes_length]; omega
    have hget := strBytes_get len n i (by omega)
    rw [List.getElem?_eq_getElem hlt] at hget
    simp only [Option.some.injEq] at hget
    rw [List.drop_eq_getElem_cons hlt, List.take_succ_cons, List.map_cons]
    refine CL.cons ?_ (ih (i + 1) (by omega))
    rw [mkInt_eq, hget]
    have hb : strByte len n i < 256 := Nat.mod_lt _ (by decide)
    simp [VR, Nat.mod_eq_of_lt hb]

theorem alloc_freeze (w : World) (c : Array Value) (e : TypeId) (n : Nat) : (w.alloc (.cells c e)).freeze ⟨w.heap.size, n, none⟩ 1 = w.alloc (.cells c e (n, n + 1)) := by
  unfold World.freeze World.alloc
  simp only [Nat.one_ne_zero, if_false]
  congr 1
  apply Array.ext_getElem?
  intro i
  rw [Array.getElem?_modify]
  by_cases hi : w.heap.size = i
  · subst hi; simp
  · rw [if_neg hi]
    simp only [Array.getElem?_push]
    rw [if_neg (Ne.symm hi), if_neg (Ne.symm hi)]

theorem makeA_sound (hE : ∀ i, (E i).oneCell' = true) {o : Oper} {vals : List AV} {n : New} (hs : makeA P o vals = some n) {ev : Operand → Value} (hv : F2 (VR E ρ) vals (o.op.operands.toList.map ev)) :
    Made E ρ P n (execOp ev o) w := by
  obtain ⟨dst, op, ty, pos, after, guard⟩ := o
  cases op
  case alloc t =>
    have : vals = [] := F2.inv_nil hv
    subst this
    simp only [makeA] at hs
    split at hs
    · rename_i z hz
      obtain ⟨i, zv, hi, hzv, hzc⟩ := CL.zeroCells (ρ := ρ) hE hz
      split at hs
      · rename_i ob hob
        simp only [Option.some.injEq] at hs; subst hs
        refine made_ptr hob hzc (run_v _ ?_)
        simp only [Instr.alloc, Sem.run_bind, run_zeroValue_some hi hzv, Result.andThen_ok, run_newVar, Sem.run_pure]
      · cases hs
    · cases hs
  case box t x =>
    obtain ⟨a, rfl, ha⟩ := F2.inv_one (show F2 (VR E ρ) vals [ev x] from hv)
    simp only [makeA] at hs
    split at hs
    · rename_i ob hob
      simp only [Option.some.injEq] at hs; subst hs
      refine made_ptr hob (VR.cells hE ha) (run_v _ ?_)
      simp only [Instr.box, Sem.run_bind, run_newVar, Result.andThen_ok, Sem.run_pure]
    · cases hs
  case buildSlice t len parts =>
    simp only [makeA] at hs
    have hv' : F2 (VR E ρ) vals ((parts.toList.map (·.2)).map ev) := by simpa [Op.operands] using hv
    split at hs
    · rename_i e ht
      split at hs
      · rename_i z s hz hsz
        obtain ⟨i, zv, hi, hzv, hzc⟩ := CL.zeroCells (ρ := ρ) hE hz
        obtain ⟨i', hi', hs'⟩ := sizeOfT_some hsz
        have : i' = i := by rw [hi] at hi'; simpa using hi'.symm
        subst this
        cases hb : (Nat.beq z.len s && Nat.ble (len * s) 100000) <;> rw [hb] at hs <;> simp only [cond_true, cond_false, reduceCtorEq] at hs
        simp only [Bool.and_eq_true, Nat.beq_eq, Nat.ble_eq] at hb
        split at hs
        · rename_i c hf
          split at hs
          · rename_i ob hob
            simp only [Option.some.injEq] at hs; subst hs
            have hzs : zv.cells.size = s := by rw [← hb.1, hzc.len]; simp
            have hrep := (CL.repeatC hzc len)
            rw [← zeros_eq zv.cells len s hzs] at hrep
            obtain ⟨cs', k1, k2⟩ := fillA_sound hE (place' := fun i => some (i * s, s)) (fun _ _ hx => hx) (parts_rel hv') hrep hf
            refine made_slice hob k2 (run_v _ ?_)
            unfold Instr.buildSlice
            simp only [Sem.run_bind, run_underlying_some ht, Result.andThen_ok, run_sizeOf_some hi, hs']
            rw [if_neg (by omega)]
            by_cases h0 : len * s = 0
            · have e1 : ∀ g : Nat → Value, (Array.range (len * s)).map g = #[] := by intro g; rw [h0]; simp
              rw [e1] at k1
              simp only [h0, if_true, pure_bind]
              rw [show ((Array.range 0).map (fun x => (#[] : Array Value)[x % (#[] : Array Value).size]!)) = #[] from by simp, k1]
              rfl
            · simp only [h0, if_false, Sem.run_bind, run_zeroValue_some hi hzv, Sem.run_pure, Result.andThen_ok]
              rw [k1]
              rfl
          · cases hs
        · cases hs
      · cases hs
    · cases hs
  case makeMap t r =>
    simp only [makeA] at hs
    cases r with
    | none =>
      have : vals = [] := F2.inv_nil hv
      subst this
      simp only [Option.some.injEq] at hs; subst hs
      refine ⟨.map #[] 0, 0, .map (some w.heap.size), w, ?_, .inl rfl, ⟨[], rfl, .nil⟩, fun ρ' b e => ⟨_, e, rfl⟩⟩
      rfl
    | some x =>
      obtain ⟨a, rfl, ha⟩ := F2.inv_one (show F2 (VR E ρ) vals [ev x] from hv)
      cases a <;> simp only [reduceCtorEq] at hs
      rename_i k m
      have hx : ev x = .int k m := ha
      split at hs
      · rename_i kt et ht
        simp only [Option.some.injEq] at hs; subst hs
        refine ⟨.map #[] 0, 0, .map (some w.heap.size), w, run_v _ ?_, .inl rfl, ⟨[], rfl, .nil⟩, fun ρ' b e => ⟨_, e, rfl⟩⟩
        simp only [Instr.makeMap, Option.map_some, Sem.run_bind, run_underlying_some ht, Result.andThen_ok, hx, asInt, asIntOf, Sem.run_pure, run_newObj]
        rfl
      · cases hs
  case makeSlice t l c =>
    obtain ⟨a, b, rfl, ha, hb'⟩ := F2.inv_two (show F2 (VR E ρ) vals [ev l, ev c] from hv)
    cases a <;> try (simp only [makeA, reduceCtorEq] at hs; done)
    cases b <;> try (simp only [makeA, reduceCtorEq] at hs; done)
    rename_i k l' k' c'
    cases l' <;> try (simp only [makeA, reduceCtorEq] at hs; done)
    cases c' <;> try (simp only [makeA, reduceCtorEq] at hs; done)
    rename_i l' c'
    have hl : ev l = .int k (Int.ofNat l') := ha
    have hc : ev c = .int k' (Int.ofNat c') := hb'
    simp only [makeA] at hs
    split at hs
    · rename_i e ht
      split at hs
      · rename_i z s bytes hz hsz hby
        obtain ⟨i, zv, hi, hzv, hzc⟩ := CL.zeroCells (ρ := ρ) hE hz
        obtain ⟨i', hi', hs'⟩ := sizeOfT_some hsz
        obtain ⟨i'', hi'', hb''⟩ := bytesOfT_some hby
        have : i' = i := by rw [hi] at hi'; simpa using hi'.symm
        subst this
        have : i'' = i' := by rw [hi] at hi''; simpa using hi''.symm
        subst this
        cases hb : (Nat.ble l' c' && Nat.beq z.len s && Nat.ble (c' * bytes) 10000000 && Nat.ble (c' * s) 100000 && Nat.ble c' 10000000) <;> rw [hb] at hs <;> simp only [cond_true, cond_false, reduceCtorEq] at hs
        simp only [Bool.and_eq_true, Nat.beq_eq, Nat.ble_eq] at hb
        obtain ⟨⟨⟨⟨q1, q2⟩, q3⟩, q4⟩, q5⟩ := hb
        split at hs
        · rename_i ob hob
          simp only [Option.some.injEq] at hs; subst hs
          have hzs : zv.cells.size = s := by rw [← q2, hzc.len]; simp
          have hrep := (CL.repeatC hzc c')
          rw [← zeros_eq zv.cells c' s hzs] at hrep
          refine made_slice hob hrep (run_v _ ?_)
          have wl : IntKind.i64.wrap (Int.ofNat l') = Int.ofNat l' := wrap_of_range _ _ (by simp [IntKind.min, IntKind.max, IntKind.signed, IntKind.bits]; omega)
          have wc : IntKind.i64.wrap (Int.ofNat c') = Int.ofNat c' := wrap_of_range _ _ (by simp [IntKind.min, IntKind.max, IntKind.signed, IntKind.bits]; omega)
          unfold Instr.makeSlice
          simp only [Sem.run_bind, run_underlying_some ht, Result.andThen_ok, hl, hc, asInt, asIntOf, Sem.run_pure, run_typeInfo_some hi, hb'', wl, wc]
          have hq : (bytes : Int) * Int.ofNat c' ≤ 2 ^ 48 := by
            have : (bytes : Int) * Int.ofNat c' = ((c' * bytes : Nat) : Int) := by rw [Nat.mul_comm]; simp
            rw [this]; omega
          have h1 : ¬ ((bytes : Int) * Int.ofNat c' > 2 ^ 48) := by omega
          have h2 : ¬ (Int.ofNat c' < 0) := by simp only [Int.ofNat_eq_natCast]; omega
          have h3 : ¬ (Int.ofNat l' < 0) := by simp only [Int.ofNat_eq_natCast]; omega
          have h4 : ¬ (Int.ofNat l' > Int.ofNat c') := by simp only [Int.ofNat_eq_natCast]; omega
          simp only [h1, h2, h3, h4, decide_false, Bool.or_self, Bool.false_eq_true, if_false, Sem.run_bind, run_askRoom, Result.andThen_ok, run_sizeOf_some hi, hs']
          have t1 : (Int.ofNat l').toNat = l' := rfl
          have t2 : (Int.ofNat c').toNat = c' := rfl
          simp only [t1, t2]
          by_cases h0 : c' * s = 0
          · have e1 : ∀ g : Nat → Value, (Array.range (c' * s)).map g = #[] := by intro g; rw [h0]; simp
            simp only [e1]
            simp only [h0, if_true]
            rfl
          · simp only [h0, if_false, Sem.run_bind, run_zeroValue_some hi hzv, Sem.run_pure, Result.andThen_ok]
            rfl
        · cases hs
      · cases hs
    · cases hs
  case convert s d x =>
    obtain ⟨a, rfl, ha⟩ := F2.inv_one (show F2 (VR E ρ) vals [ev x] from hv)
    cases a <;> simp only [makeA, reduceCtorEq] at hs
    rename_i len m
    obtain ⟨hlt, hx⟩ := ha
    split at hs
    · rename_i ds e hds hdd
      split at hs
      · rename_i he
        split at hs
        · rename_i ob hob
          simp only [Option.some.injEq] at hs; subst hs
          have hst := strCells_rel (E := E) (ρ := ρ) len m len 0 (by omega)
          have hfull : ((strBytes len m).drop 0).take len = strBytes len m := by
            rw [List.drop_zero, List.take_of_length_le (by rw [strBytes_length]; omega)]
          rw [hfull] at hst
          have hcap : ∃ cap, len ≤ cap ∧ (Question.appendCap len 0 e).cut (w.tape w.drawn (.appendCap len 0 e)) = cap := ⟨_, Nat.le_add_right _ _, rfl⟩
          obtain ⟨cap, hle, hcut⟩ := hcap
          have hsz : (bstr (strBytes len m)).size = len := by rw [bstr_size, strBytes_length]
          have hlen : (((strBytes len m).map fun b => Value.int .u8 (b.toNat : Int)) ++ List.replicate (cap - len) (Value.int .u8 0)).length = cap := by
            simp [strBytes_length]; omega
          refine ⟨.cells ⟨((strBytes len m).map fun b => Value.int .u8 (b.toNat : Int)) ++ List.replicate (cap - len) (Value.int .u8 0)⟩ e (cap, cap + 1), cap, .slice (some ⟨w.heap.size, 0, none⟩) len cap, w.drew, run_v _ ?_, .inr rfl, ?_, ?_⟩
          · unfold convert
            simp only [Sem.run_bind, run_underlying_some hds, run_underlying_some hdd, Result.andThen_ok, hx, run_underlying_some he]
            unfold Conv.stringToBytes
            have hch : (choose (.appendCap (bstr (strBytes len m)).size 0 e)).run P w = .ok cap w.drew := by
              rw [hsz, run_choose]
              simp only [Question.forced, Bool.false_eq_true, if_false, hcut]
              rfl
            simp only [Sem.run_bind, hch, Result.andThen_ok, newRow, run_newObj, Sem.run_pure]
            have hrow : (Array.map (fun (b : UInt8) => Value.int .u8 (b.toNat : Int)) (bstr (strBytes len m)).data ++ Array.replicate (cap - (bstr (strBytes len m)).size) (Value.int .u8 0)) =
                ⟨((strBytes len m).map fun b => Value.int .u8 (b.toNat : Int)) ++ List.replicate (cap - len) (Value.int .u8 0)⟩ := by
              rw [hsz]
              apply Array.ext'
              simp
            rw [hrow]
            have hal : ({ w.drew with heap := w.drew.heap.push (.cells ⟨((strBytes len m).map fun b => Value.int .u8 (b.toNat : Int)) ++ List.replicate (cap - len) (Value.int .u8 0)⟩ e) } : World) = w.drew.alloc (.cells ⟨((strBytes len m).map fun b => Value.int .u8 (b.toNat : Int)) ++ List.replicate (cap - len) (Value.int .u8 0)⟩ e) := rfl
            rw [hal]
            have hshape : (w.drew.alloc (.cells ⟨((strBytes len m).map fun b => Value.int .u8 (b.toNat : Int)) ++ List.replicate (cap - len) (Value.int .u8 0)⟩ e)).shape? w.drew.heap.size = some (e, cap) := by
              rw [shape_cells (heap_alloc_self _ _)]
              simp only [List.size_toArray, hlen]
            unfold markStringish
            simp only [Sem.run_bind, run_shape, hshape, Result.andThen_ok, run_freeze]
            rw [alloc_freeze]
            simp only [hsz]
            rfl
          · have := newCells_rel (ys := List.replicate (cap - len) (Value.int .u8 0)) (blk := w.heap.size) (lo := cap) (hi := cap + 1) hob hst (fun hh => by cases hh) (Nat.le_succ _) (fun p h1 h2 => .inr ⟨rfl, by rw [hlen]; exact h1⟩)
            rw [hlen] at this
            exact this
          · intro ρ' b hb'
            exact ⟨_, cap, hb', by simp, by simp, hle⟩
        · cases hs
      · cases hs
    · cases hs
  case range t x =>
    obtain ⟨a, rfl, ha⟩ := F2.inv_one (show F2 (VR E ρ) vals [ev x] from hv)
    simp only [makeA] at hs
    split at hs
    · rename_i len m ht
      obtain ⟨hlt, hx⟩ := ha
      simp only [Option.some.injEq] at hs; subst hs
      refine ⟨.stringIter (bstr (strBytes len m)) 0, 0, .pointer (some ⟨w.heap.size, 0, none⟩), w, run_v _ ?_, .inl rfl, ⟨rfl, hlt, rfl⟩, fun ρ' b e => ⟨_, e, rfl⟩⟩
      simp only [Instr.range, Sem.run_bind, run_underlying_some ht, Result.andThen_ok, hx, Sem.run_pure, run_newObj]
      rfl
    · cases hs
  all_goals (simp only [makeA, reduceCtorEq] at hs)

end Go.AM
namespace Go.AM
open Go.RowKit (Below)
variable {E : Nat → Value} {G : Nat} {w0 : World} {ρ : Rho} {h : Heap} {w : World} {P : Program}

/-- What the model does where it answers a value. -/
def WroteV (E : Nat → Value) (G : Nat) (w0 : World) (ρ : Rho) (h : Heap) (P : Program) (a : AV) (h' : Heap) (s : Sem Value) (w : World) : Prop :=
  ∃ v w' ρ', s.run P w = .ok v w' ∧ HeapR E G w0 ρ' h' w' ∧ Ext ρ h ρ' h' ∧ VR E ρ' a v

/-- What the model does where it answers nothing. -/
def WroteU (E : Nat → Value) (G : Nat) (w0 : World) (ρ : Rho) (h : Heap) (P : Program) (h' : Heap) (s : Sem Unit) (w : World) : Prop :=
  ∃ w' ρ', s.run P w = .ok () w' ∧ HeapR E G w0 ρ' h' w' ∧ Ext ρ h ρ' h'

/-- What the model does at an operation that writes. -/
def Wrote (E : Nat → Value) (G : Nat) (w0 : World) (ρ : Rho) (h : Heap) (P : Program) (r : Wr) (s : Sem Next) (w : World) : Prop :=
  match r with
  | .val a h' => ∃ v w' ρ', s.run P w = .ok (.value v) w' ∧ HeapR E G w0 ρ' h' w' ∧ Ext ρ h ρ' h' ∧ VR E ρ' a v
  | .skip h' => ∃ w' ρ', s.run P w = .ok .skip w' ∧ HeapR E G w0 ρ' h' w' ∧ Ext ρ h ρ' h'

theorem WroteV.next {a : AV} {h' : Heap} {s : Sem Value} (hw : WroteV E G w0 ρ h P a h' s w) : Wrote E G w0 ρ h P (.val a h') (do pure (Next.value (← s)) : Sem Next) w := by
  obtain ⟨v, w', ρ', h1, h2⟩ := hw
  exact ⟨v, w', ρ', run_v s h1, h2⟩

theorem WroteU.next {h' : Heap} {s : Sem Unit} (hw : WroteU E G w0 ρ h P h' s w) : Wrote E G w0 ρ h P (.skip h') (do s; pure Next.skip : Sem Next) w := by
  obtain ⟨w', ρ', h1, h2⟩ := hw
  exact ⟨w', ρ', by simp only [Sem.run_bind, h1, Result.andThen_ok, Sem.run_pure], h2⟩

/-! ### Objects that are no rows -/
def isCells : Obj → Bool
  | .cells .. => true
  | _ => false

theorem run_getObj_ok {r : Nat} {o : Obj} (hb : w.heap[r]? = some o) (hn : isCells o = false) : (getObj r).run P w = .ok o w := by
  unfold getObj
  simp only [Sem.run, hb]
  cases o <;> simp_all [isCells]

theorem run_setObj_ok {r : Nat} {o o' : Obj} (hb : w.heap[r]? = some o) (hn : isCells o = false) : (setObj r o').run P w = .ok () { w with heap := w.heap.setIfInBounds r o' } := by
  unfold setObj
  simp only [Sem.run, hb]
  cases o <;> simp_all [isCells]

theorem HeapR.set (hr : HeapR E G w0 ρ h w) {b : Nat} {l : Loc} (e : ρ b = some l) (hf : isFree (h.at b) = false) (hro : roObj (h.at b) = false) {a : AObj} {o : Obj} (ho : ObjR E ρ a l o) :
    HeapR E G w0 ρ (h.put b a) { w with heap := w.heap.setIfInBounds l.blk o } ∧ Ext ρ h ρ (h.put b a) := by
  have hlt := hr.blk_lt e
  refine hr.turn e hf hro (o := o) (by simp) rfl rfl rfl (by simp [hlt]) (fun k hk => ?_) ho
  show (w.heap.setIfInBounds l.blk o)[k]? = _
  rw [Array.getElem?_setIfInBounds_ne (Ne.symm hk)]

/-! ### A map's entry -/
theorem bytes_self (s : ByteArray) : (s == s) = true := by rw [beq_toListBytes]; exact beq_self_eq_true _

theorem sameKey_sound {a b : AV} (hs : sameKey a b = true) {v u : Value} (hv : VR E ρ a v) (hu : VR E ρ b u) (n : Nat) : Instr.sameBits n v u = true := by
  unfold sameKey at hs
  split at hs
  · rename_i j x k y
    obtain rfl := hv
    obtain rfl := hu
    rw [intEq_eq] at hs
    simp only [Bool.and_eq_true, decide_eq_true_eq, beq_iff_eq] at hs
    obtain ⟨rfl, rfl⟩ := hs
    cases n <;> simp [Instr.sameBits]
  · rename_i la x lb y
    obtain ⟨h1, rfl⟩ := hv
    obtain ⟨h2, rfl⟩ := hu
    simp only [Bool.and_eq_true, Nat.beq_eq] at hs
    obtain ⟨rfl, rfl⟩ := hs
    cases n <;> simp [Instr.sameBits, bytes_self]
  · rename_i x y
    obtain rfl := hv
    obtain rfl := hu
    simp only [beq_iff_eq] at hs
    subst hs
    cases n <;> simp [Instr.sameBits]
  · cases hs

theorem sameKeys_sound : ∀ {a b : AV} {xs ys : List Value}, sameKeys a b = true → CL E ρ a xs → CL E ρ b ys → xs.length = ys.length ∧ ∀ n, ((xs.zip ys).all fun (p : Value × Value) => Instr.sameBits n p.1 p.2) = true := by
  intro a
  induction a with
  | nil =>
    intro b xs ys hs h1 h2
    cases b <;> simp [sameKeys] at hs
    rw [CL.nil_iff] at h1 h2
    subst h1; subst h2
    exact ⟨rfl, fun _ => rfl⟩
  | cons x t _ ih =>
    intro b xs ys hs h1 h2
    cases b <;> simp [sameKeys] at hs
    obtain ⟨v, vs, rfl, g1, g2⟩ := CL.cons_iff.1 h1
    obtain ⟨u, us, rfl, k1, k2⟩ := CL.cons_iff.1 h2
    obtain ⟨q1, q2⟩ := ih hs.2 g2 k2
    refine ⟨by simp [q1], fun n => ?_⟩
    simp only [List.zip_cons_cons, List.all_cons, sameKey_sound hs.1 g1 k1, Bool.true_and]
    exact q2 n
  | _ => intro b xs ys hs h1; simp [CL, isChain] at h1

theorem keyStays_sound {a b : AV} (hs : keyStays a b = true) {v u : Value} (hv : VR E ρ a v) (hu : VR E ρ b u) : Instr.sameBits 10000 v u = true := by
  unfold keyStays at hs
  split at hs
  · rename_i s t
    obtain ⟨xs, rfl, c1⟩ := VR.agg_iff.1 hv
    obtain ⟨ys, rfl, c2⟩ := VR.agg_iff.1 hu
    obtain ⟨q1, q2⟩ := sameKeys_sound hs c1 c2
    have := q2 9999
    simp [Instr.sameBits, q1]
    simpa using this
  · exact sameKey_sound hs hv hu _

theorem setNth_length {α : Type} (l : List α) (i : Nat) (x : α) : (setNth l i x).length = l.length := by
  induction l generalizing i with
  | nil => rfl
  | cons a l ih => cases i <;> simp [setNth, ih]

theorem F2.setNth {α β : Type} {R : α → β → Prop} {as : List α} {bs : List β} (h : F2 R as bs) : ∀ (i : Nat) (a : α) (f : β → β), (∀ b, bs[i]? = some b → R a (f b)) → F2 R (AM.setNth as i a) (bs.modify i f) := by
  induction h with
  | nil => intro i a f _; cases i <;> exact .nil
  | cons h _ ih =>
    intro i a f hf
    cases i with
    | zero => exact .cons (hf _ rfl) (by assumption)
    | succ i => exact .cons h (ih i a f (fun b hb => hf b (by simpa using hb)))

theorem keyOk_underlying {kt : Nat} {k : AV} (hk : keyOk P kt k = true) : ∃ d, P.underlying kt = some d := by
  unfold keyOk at hk
  cases hd : P.underlying kt with
  | none => simp [hd] at hk
  | some d => exact ⟨d, rfl⟩

theorem mapUpdate_sound (hr : HeapR E G w0 ρ h w) {t : Nat} {m k v : AV} {r : Wr} (hs : mapUpdateA P h t m k v = some r) {vm vk vv : Value} (hm : VR E ρ m vm) (hk : VR E ρ k vk) (hv : VR E ρ v vv) :
    ∃ h', r = .skip h' ∧ WroteU E G w0 ρ h P h' (Instr.mapUpdate t vm vk vv) w := by
  unfold mapUpdateA at hs
  split at hs
  · rename_i kt et b ht
    cases hok : keyOk P kt k <;> rw [hok] at hs <;> simp only [cond_true, cond_false, reduceCtorEq] at hs
    obtain ⟨d, hd⟩ := keyOk_underlying hok
    obtain ⟨l, el, rfl⟩ := hm
    split at hs
    · rename_i es clock hma
      obtain ⟨ces, g1, g2⟩ := hr.mapAt el hma
      have hat := mapAt_some hma
      split at hs
      · rename_i i k' v' born hfk
        cases hst : keyStays k' k <;> rw [hst] at hs <;> simp only [cond_true, cond_false, reduceCtorEq, Option.some.injEq] at hs
        subst hs
        obtain ⟨r, f1, f2⟩ := findKeyA_sound hr hk g2 hfk
        cases r with
        | none => exact f2.elim
        | some ju =>
          obtain ⟨j, u⟩ := ju
          obtain ⟨rfl, e1, ce, e2, _, e3⟩ := f2
          refine ⟨_, rfl, _, ρ, ?_, hr.set el (by rw [hat]; rfl) (by rw [hat]; rfl) (o := .map ((⟨ces⟩ : Array MapEntry).modify i fun e => { e with key := vk, val := vv }) clock) ?_⟩
          · unfold Instr.mapUpdate
            simp only [Sem.run_bind, run_underlying_some ht, Result.andThen_ok, run_getObj_m g1, checkKey_sound hok hk, run_findKey_of hd f1]
            have hce : ((⟨ces⟩ : Array MapEntry)[i]?) = some ce := by simpa using e2
            simp only [hce, Option.map_some, Option.getD_some]
            unfold Instr.keyThatStays
            simp only [keyStays_sound hst e3.1 hk, if_true, Sem.run_pure, Result.andThen_ok]
            rw [run_setObj_ok g1 rfl]
          · refine ⟨ces.modify i fun e => { e with key := vk, val := vv }, by simp, g2.setNth i _ _ (fun c hc => ?_)⟩
            rw [e2] at hc
            simp only [Option.some.injEq] at hc; subst hc
            exact ⟨hk, hv, e3.2.2⟩
      · rename_i hfk
        simp only [Option.some.injEq] at hs; subst hs
        obtain ⟨r, f1, f2⟩ := findKeyA_sound hr hk g2 hfk
        cases r with
        | some ju => exact f2.elim
        | none =>
          refine ⟨_, rfl, _, ρ, ?_, hr.set el (by rw [hat]; rfl) (by rw [hat]; rfl) (o := .map ((⟨ces⟩ : Array MapEntry).push { key := vk, val := vv, born := clock }) (clock + 1)) ?_⟩
          · unfold Instr.mapUpdate
            simp only [Sem.run_bind, run_underlying_some ht, Result.andThen_ok, run_getObj_m g1, checkKey_sound hok hk, run_findKey_of hd f1]
            rw [run_setObj_ok g1 rfl]
          · exact ⟨ces ++ [{ key := vk, val := vv, born := clock }], by simp, g2.append (.cons ⟨hk, hv, rfl⟩ .nil)⟩
      · cases hs
    · cases hs
  · cases hs

/-! ### The next of a range -/
theorem F2.any_born {es : List (AV × AV × Nat)} {ces : List MapEntry} (hes : F2 (EntR E ρ) es ces) (f : Nat → Bool) : es.all (fun e => f e.2.2) = ces.all (fun e => f e.born) := by
  induction hes with
  | nil => rfl
  | cons h _ ih => simp [ih, h.2.2]

theorem F2.filter_born {es : List (AV × AV × Nat)} {ces : List MapEntry} (hes : F2 (EntR E ρ) es ces) (f : Nat → Bool) : F2 (EntR E ρ) (es.filter fun e => f e.2.2) (ces.filter fun e => f e.born) := by
  induction hes with
  | nil => exact .nil
  | @cons a b as bs h _ ih =>
    simp only [List.filter_cons, h.2.2]
    split
    · exact .cons h ih
    · exact ih

theorem next_sound (hr : HeapR E G w0 ρ h w) {it : AV} {isString : Bool} {r : Wr} (hs : nextA h it isString = some r) {v : Value} (hv : VR E ρ it v) (ty : TypeId) :
    ∃ a h', r = .val a h' ∧ WroteV E G w0 ρ h P a h' (Instr.next v isString ty) w := by
  unfold nextA at hs
  split at hs
  · rename_i b
    obtain ⟨l, el, rfl⟩ := hv
    split at hs
    · rename_i len n pos hat
      obtain ⟨o, h1, h2⟩ := hr.obj b l el
      rw [hat] at h2
      obtain ⟨hb0, hlt, rfl⟩ := h2
      have hz : l.base + 0 = 0 := by omega
      cases hb : Nat.blt pos len <;> rw [hb] at hs <;> simp only [cond_true, cond_false, Option.some.injEq] at hs
      · subst hs
        have hnot : ¬ pos < len := by
          intro hc
          have : Nat.blt pos len = true := by simpa [Nat.blt_eq] using hc
          rw [hb] at this; cases this
        refine ⟨_, _, rfl, .tuple #[.bool false], w, ρ, ?_, hr, Ext.refl _ _, CL.tup (CL.cons rfl CL.nil)⟩
        unfold Instr.next
        simp only [hz, Sem.run_bind, run_getObj_ok h1 rfl, Result.andThen_ok]
        have hsz : ¬ pos < (⟨⟨strBytes len n⟩⟩ : ByteArray).size := by
          show ¬ pos < (strBytes len n).length
          rw [strBytes_length]; exact hnot
        simp only [hsz, if_false, Sem.run_pure]
      · subst hs
        have hpos : pos < len := by simpa [Nat.blt_eq] using hb
        have hset := hr.set el (by rw [hat]; rfl) (by rw [hat]; rfl) (a := .sit len n (pos + (Utf8.decode ⟨⟨strBytes len n⟩⟩ pos).2)) (o := .stringIter ⟨⟨strBytes len n⟩⟩ (pos + (Utf8.decode ⟨⟨strBytes len n⟩⟩ pos).2)) ⟨hb0, hlt, rfl⟩
        refine ⟨_, _, rfl, .tuple #[.bool true, goInt pos, .int .i32 (Utf8.decode ⟨⟨strBytes len n⟩⟩ pos).1], _, ρ, ?_, by rw [natSeq_eq]; exact hset.1, by rw [natSeq_eq]; exact hset.2, ?_⟩
        · unfold Instr.next
          simp only [hz, Sem.run_bind, run_getObj_ok h1 rfl, Result.andThen_ok]
          have hsz : pos < (⟨⟨strBytes len n⟩⟩ : ByteArray).size := by
            show pos < (strBytes len n).length
            rw [strBytes_length]; exact hpos
          simp only [hsz, if_true, Sem.run_bind, run_setObj_ok h1 (rfl : isCells (.stringIter _ _) = false), Result.andThen_ok, Sem.run_pure]
        · rw [mkInt_eq, mkInt_eq]
          exact CL.tup (CL.cons rfl (CL.cons rfl (CL.cons rfl CL.nil)))
    · rename_i since seen last hat
      simp only [Option.some.injEq] at hs; subst hs
      obtain ⟨o, h1, h2⟩ := hr.obj b l el
      rw [hat] at h2
      obtain ⟨hb0, m', sn, rfl, hsn, rfl⟩ := h2
      have hz : l.base + 0 = 0 := by omega
      refine ⟨_, _, rfl, .tuple #[.bool false], w, ρ, ?_, hr, Ext.refl _ _, CL.tup (CL.cons rfl CL.nil)⟩
      unfold Instr.next
      simp only [hz, Sem.run_bind, run_getObj_ok h1 rfl, Result.andThen_ok, Sem.run_pure]
    · rename_i m since seen last hat
      obtain ⟨o, h1, h2⟩ := hr.obj b l el
      rw [hat] at h2
      obtain ⟨hb0, m', sn, rfl, hsn, l', el', rfl⟩ := h2
      have hz : l.base + 0 = 0 := by omega
      split at hs
      · rename_i es clock hma
        obtain ⟨ces, g1, g2⟩ := hr.mapAt el' hma
        cases hbad : (!seen.isEmpty && !es.isEmpty && es.all (fun e => Nat.ble last e.2.2)) <;> rw [hbad] at hs <;> simp only [Bool.true_or, Bool.false_or, cond_true, reduceCtorEq] at hs
        cases hbog : es.all (fun e => Nat.blt e.2.2 BOGUS) <;> rw [hbog] at hs <;> simp only [Bool.not_true, Bool.not_false, cond_true, cond_false, reduceCtorEq] at hs
        have hcb : ∀ e ∈ ces, e.born < BOGUS := by
          intro e he
          have := F2.any_born g2 (fun n => Nat.blt n BOGUS)
          rw [hbog] at this
          have := List.all_eq_true.1 this.symm e he
          simpa [Nat.blt_eq] using this
        have hemp : es.isEmpty = ces.isEmpty := by cases g2 <;> rfl
        have hbad' : (!(⟨sn⟩ : Array Nat).isEmpty && !(⟨ces⟩ : Array MapEntry).isEmpty && (⟨ces⟩ : Array MapEntry).all (fun e => decide (e.born ≥ last))) = false := by
          rw [← hbad]
          have q1 : (⟨sn⟩ : Array Nat).isEmpty = seen.isEmpty := by rw [← hsn.empty]; cases sn <;> rfl
          have q2 : (⟨ces⟩ : Array MapEntry).isEmpty = ces.isEmpty := by cases ces <;> rfl
          have q3 : (⟨ces⟩ : Array MapEntry).all (fun e => decide (e.born ≥ last)) = es.all (fun e => Nat.ble last e.2.2) := by
            rw [F2.any_born g2 (fun n => Nat.ble last n)]
            simp only [List.all_toArray]
            congr 1
            funext e
            rw [Bool.eq_iff_iff]; simp [Nat.ble_eq]
          rw [q1, q2, q3, hemp]
        have hleft : F2 (EntR E ρ) (es.filter fun e => !seen.any (Nat.beq e.2.2)) (ces.filter fun e => !sn.contains e.born) := by
          have := F2.filter_born g2 (fun n => !seen.any (Nat.beq n))
          have e1 : ces.filter (fun (e : MapEntry) => !sn.contains e.born) = ces.filter fun e => !seen.any (Nat.beq e.born) :=
            List.filter_congr fun e he => by rw [hsn.any (hcb e he)]
          rw [e1]; exact this
        have hfil : ((⟨ces⟩ : Array MapEntry).filter fun e => !(⟨sn⟩ : Array Nat).contains e.born) = ⟨ces.filter fun e => !sn.contains e.born⟩ := by
          simp
        have hnext : ∀ (c : Array (Option MapEntry)) (cont : Nat → Sem Value), c.size = 1 → ((choose (.mapNext c.size)) >>= cont).run P w = (cont 0).run P w := by
          intro c cont hc
          simp [Sem.run_bind, Question.forced, hc]
        split at hs
        · rename_i hfe
          simp only [Option.some.injEq] at hs; subst hs
          rw [hfe] at hleft
          have hnil : ces.filter (fun e => !sn.contains e.born) = [] := List.length_eq_zero_iff.1 hleft.length.symm
          refine ⟨_, _, rfl, .tuple #[.bool false], w, ρ, ?_, hr, Ext.refl _ _, CL.tup (CL.cons rfl CL.nil)⟩
          unfold Instr.next
          simp only [hz, Sem.run_bind, run_getObj_ok h1 rfl, Result.andThen_ok, run_getObj_m g1, hbad', Bool.false_eq_true, if_false, hfil, hnil]
          simp [Question.forced]
        · rename_i k u born hfe
          cases hbs : Nat.blt born since <;> rw [hbs] at hs <;> simp only [cond_true, cond_false, reduceCtorEq, Option.some.injEq] at hs
          subst hs
          rw [hfe] at hleft
          have hone : ∃ e, ces.filter (fun e => !sn.contains e.born) = [e] ∧ EntR E ρ (k, u, born) e := by
            obtain ⟨e, h3, h4⟩ := F2.left_one hleft
            exact ⟨e, h3, h4⟩
          obtain ⟨e, he, her⟩ := hone
          have hborn : e.born = born := her.2.2
          have hlt : e.born < since := by rw [hborn]; simpa [Nat.blt_eq] using hbs
          have hset := hr.set el (by rw [hat]; rfl) (by rw [hat]; rfl) (a := .mit (some m) since (seen ++ [born]) clock) (o := .mapIter (some l'.blk) since ((⟨sn⟩ : Array Nat).push e.born) clock)
            ⟨hb0, some l'.blk, sn ++ [born], by simp [hborn], hsn.push born, l', el', rfl⟩
          refine ⟨_, _, rfl, .tuple #[.bool true, e.key, e.val], _, ρ, ?_, hset.1, hset.2, CL.tup (CL.cons rfl (CL.cons her.1 (CL.cons her.2.1 CL.nil)))⟩
          unfold Instr.next
          simp only [hz, Sem.run_bind, run_getObj_ok h1 rfl, Result.andThen_ok, run_getObj_m g1, hbad', Bool.false_eq_true, if_false, hfil, he]
          have hge : ¬ (e.born ≥ since) := by omega
          simp [Question.forced, hlt, hge, run_setObj_ok h1 (rfl : isCells (.mapIter _ _ _ _) = false)]
        · cases hs
      · cases hs
    · cases hs
  · cases hs

/-- One of the entries that may come next comes. -/
theorem nexts_sound (hr : HeapR E G w0 ρ h w) {it : AV} {l : List (AV × Heap)} (hs : nextsA h it = some l) {v : Value} (hv : VR E ρ it v) (ty : TypeId) :
    ∃ x, x ∈ l ∧ WroteV E G w0 ρ h P x.1 x.2 (Instr.next v false ty) w := by
  unfold nextsA at hs
  split at hs
  · rename_i b
    obtain ⟨lc, el, rfl⟩ := hv
    split at hs
    · rename_i m since seen last hat
      obtain ⟨o, h1, h2⟩ := hr.obj b lc el
      rw [hat] at h2
      obtain ⟨hb0, m', sn, rfl, hsn, l', el', rfl⟩ := h2
      have hz : lc.base + 0 = 0 := by omega
      split at hs
      · rename_i es clock hma
        obtain ⟨ces, g1, g2⟩ := hr.mapAt el' hma
        cases hbad : (!seen.isEmpty && !es.isEmpty && es.all (fun e => Nat.ble last e.2.2)) <;> rw [hbad] at hs <;> simp only [Bool.true_or, Bool.false_or, cond_true, reduceCtorEq] at hs
        cases hbog : es.all (fun e => Nat.blt e.2.2 BOGUS) <;> rw [hbog] at hs <;> simp only [Bool.not_true, Bool.not_false, cond_true, cond_false, reduceCtorEq] at hs
        have hcb : ∀ e ∈ ces, e.born < BOGUS := by
          intro e he
          have := F2.any_born g2 (fun n => Nat.blt n BOGUS)
          rw [hbog] at this
          have := List.all_eq_true.1 this.symm e he
          simpa [Nat.blt_eq] using this
        have hemp : es.isEmpty = ces.isEmpty := by cases g2 <;> rfl
        have hbad' : (!(⟨sn⟩ : Array Nat).isEmpty && !(⟨ces⟩ : Array MapEntry).isEmpty && (⟨ces⟩ : Array MapEntry).all (fun e => decide (e.born ≥ last))) = false := by
          rw [← hbad]
          have q1 : (⟨sn⟩ : Array Nat).isEmpty = seen.isEmpty := by rw [← hsn.empty]; cases sn <;> rfl
          have q2 : (⟨ces⟩ : Array MapEntry).isEmpty = ces.isEmpty := by cases ces <;> rfl
          have q3 : (⟨ces⟩ : Array MapEntry).all (fun e => decide (e.born ≥ last)) = es.all (fun e => Nat.ble last e.2.2) := by
            rw [F2.any_born g2 (fun n => Nat.ble last n)]
            simp only [List.all_toArray]
            congr 1
            funext e
            rw [Bool.eq_iff_iff]; simp [Nat.ble_eq]
          rw [q1, q2, q3, hemp]
        have hleft : F2 (EntR E ρ) (es.filter fun e => !seen.any (Nat.beq e.2.2)) (ces.filter fun e => !sn.contains e.born) := by
          have := F2.filter_born g2 (fun n => !seen.any (Nat.beq n))
          have e1 : ces.filter (fun (e : MapEntry) => !sn.contains e.born) = ces.filter fun e => !seen.any (Nat.beq e.born) :=
            List.filter_congr fun e he => by rw [hsn.any (hcb e he)]
          rw [e1]; exact this
        have hfil : ((⟨ces⟩ : Array MapEntry).filter fun e => !(⟨sn⟩ : Array Nat).contains e.born) = ⟨ces.filter fun e => !sn.contains e.born⟩ := by
          simp
        split at hs
        · rename_i x y rest hfe
          cases hbs : ((x :: y :: rest).all (fun e => Nat.blt e.2.2 since)) <;> rw [hbs] at hs <;> simp only [cond_true, cond_false, reduceCtorEq, Option.some.injEq] at hs
          subst hs
          rw [hfe] at hleft
          generalize hcl : ces.filter (fun e => !sn.contains e.born) = cl at hleft hfil
          have hold : ∀ e ∈ cl, e.born < since := by
            intro e he
            have := F2.any_born hleft (fun n => Nat.blt n since)
            rw [hbs] at this
            have := List.all_eq_true.1 this.symm e he
            simpa [Nat.blt_eq] using this
          have hlen : cl.length = rest.length + 2 := by rw [← hleft.length]; simp
          have hf1 : (⟨cl⟩ : Array MapEntry).filter (fun e => decide (e.born < since)) = ⟨cl⟩ := by
            apply Array.ext'
            simp only [Array.toList_filter]
            exact List.filter_eq_self.2 fun e he => by simpa using hold e he
          have hf2 : (⟨cl⟩ : Array MapEntry).filter (fun e => decide (e.born ≥ since)) = ⟨[]⟩ := by
            apply Array.ext'
            simp only [Array.toList_filter]
            exact List.filter_eq_nil_iff.2 fun e he => by have := hold e he; simp; omega
          have hcand : ((if (⟨cl⟩ : Array MapEntry).isEmpty then #[(none : Option MapEntry)] else #[]) ++ ((⟨cl⟩ : Array MapEntry) ++ (⟨[]⟩ : Array MapEntry)).map some) = ⟨cl.map some⟩ := by
            have : (⟨cl⟩ : Array MapEntry).isEmpty = false := by
              cases cl with
              | nil => simp at hlen
              | cons a l => rfl
            rw [this]
            apply Array.ext'
            simp
          have hidx : w.tape w.drawn (.mapNext (⟨cl.map some⟩ : Array (Option MapEntry)).size) % cl.length < cl.length := Nat.mod_lt _ (by omega)
          generalize hi : w.tape w.drawn (.mapNext (⟨cl.map some⟩ : Array (Option MapEntry)).size) % cl.length = i at hidx
          have hce : cl[i]? = some cl[i] := by simp [hidx]
          obtain ⟨ae, hae, her⟩ : ∃ ae, (x :: y :: rest)[i]? = some ae ∧ EntR E ρ ae cl[i] := by
            have hli : i < (x :: y :: rest).length := by rw [hleft.length]; exact hidx
            obtain ⟨b', hb', hr'⟩ := F2.get hleft i _ (List.getElem?_eq_getElem hli)
            rw [hce] at hb'
            simp only [Option.some.injEq] at hb'
            subst hb'
            exact ⟨_, List.getElem?_eq_getElem hli, hr'⟩
          refine ⟨_, List.mem_map.2 ⟨ae, List.mem_of_getElem? hae, rfl⟩, ?_⟩
          have hr1 := hr.drew
          have h1' : w.drew.heap[lc.blk]? = some (.mapIter (some l'.blk) since ⟨sn⟩ last) := h1
          have hset := hr1.set el (by rw [hat]; rfl) (by rw [hat]; rfl) (a := .mit (some m) since (seen ++ [ae.2.2]) clock) (o := .mapIter (some l'.blk) since ((⟨sn⟩ : Array Nat).push cl[i].born) clock)
            ⟨hb0, some l'.blk, sn ++ [ae.2.2], by simp [her.2.2], hsn.push _, l', el', rfl⟩
          refine ⟨.tuple #[.bool true, cl[i].key, cl[i].val], _, ρ, ?_, hset.1, hset.2, CL.tup (CL.cons rfl (CL.cons her.1 (CL.cons her.2.1 CL.nil)))⟩
          unfold Instr.next
          simp only [hz, Sem.run_bind, run_getObj_ok h1 rfl, Result.andThen_ok, run_getObj_m g1, hbad', Bool.false_eq_true, if_false, hfil, hf1, hf2, hcand]
          have hfor : (Question.mapNext (⟨cl.map some⟩ : Array (Option MapEntry)).size).forced = false := by
            simp [Question.forced, hlen]
          have hcut : (Question.mapNext (⟨cl.map some⟩ : Array (Option MapEntry)).size).cut (w.tape w.drawn (.mapNext (⟨cl.map some⟩ : Array (Option MapEntry)).size)) = i := by
            rw [← hi]
            simp [Question.cut]
          simp only [run_choose, hfor, Bool.false_eq_true, if_false, hcut, Result.andThen_ok]
          have hget : (⟨cl.map some⟩ : Array (Option MapEntry))[i]? = some (some cl[i]) := by simp [hidx]
          simp only [hget, Sem.run_bind]
          have hdr : ({ w with drawn := w.drawn + 1 } : World) = w.drew := rfl
          rw [hdr, run_setObj_ok h1' (rfl : isCells (.mapIter _ _ _ _) = false)]
          rfl
        · cases hs
      · cases hs
    · cases hs
  · cases hs

end Go.AM
namespace Go.AM
open Go.RowKit (Below)
variable {E : Nat → Value} {G : Nat} {w0 : World} {ρ : Rho} {h : Heap} {w : World} {P : Program}

/-! ### What is appended or copied -/
theorem lenOf_sound {x : AV} {n : Nat} (hs : lenOfA x = some n) {v : Value} (hv : VR E ρ x v) : (Builtin.lenOf v).run P w = .ok n w := by
  unfold lenOfA at hs
  split at hs <;> simp only [Option.some.injEq, reduceCtorEq] at hs <;> subst hs
  · obtain rfl := hv; rfl
  · obtain ⟨a, c, rfl⟩ := hv; rfl
  · obtain ⟨l, c, _, rfl, _⟩ := hv; rfl
  · obtain ⟨_, rfl⟩ := hv
    unfold Builtin.lenOf
    simp only [Sem.run_pure]
    show Result.ok (strBytes _ _).length w = _
    rw [strBytes_length]

theorem cell_heap {w' : World} (hh : w'.heap = w.heap) (a : Addr) : w'.cell? a = w.cell? a := by simp only [World.cell?, hh]

theorem firstCells_sound (hr : HeapR E G w0 ρ h w) {size n : Nat} {x c : AV} (hs : firstCellsA h size n x = some c) {v : Value} (hv : VR E ρ x v) :
    ∃ cs, (∀ w', w'.heap = w.heap → (Builtin.firstCells size n v).run P w' = .ok ⟨cs⟩ w') ∧ CL E ρ c cs := by
  unfold firstCellsA at hs
  split at hs
  · obtain rfl := hv
    split at hs
    · simp only [Option.some.injEq] at hs; subst hs
      exact ⟨[], fun _ _ => rfl, CL.nil⟩
    · cases hs
  · obtain ⟨a, cc, rfl⟩ := hv
    split at hs
    · simp only [Option.some.injEq] at hs; subst hs
      refine ⟨[], fun _ _ => ?_, CL.nil⟩
      unfold Builtin.firstCells
      simp only [Nat.zero_mul]
      rfl
    · cases hs
  · rename_i b off len cap esz
    obtain ⟨l, cc, el, rfl, _⟩ := hv
    cases hb : Nat.ble n len <;> rw [hb] at hs <;> simp only [cond_true, cond_false, reduceCtorEq] at hs
    obtain ⟨xs, h1, h2, h3⟩ := readCells_sound hr el hs
    exact ⟨xs, fun w' hh => run_firstCells_some w' size n _ _ _ xs h2 (fun j v hj => by rw [cell_heap hh]; exact h3 j v hj), h1⟩
  · rename_i len m
    obtain ⟨_, rfl⟩ := hv
    cases hb : Nat.ble n len <;> rw [hb] at hs <;> simp only [cond_true, cond_false, reduceCtorEq, Option.some.injEq] at hs
    subst hs
    have hle : n ≤ len := by simpa [Nat.ble_eq] using hb
    have := strCells_rel (E := E) (ρ := ρ) len m n 0 (by omega)
    refine ⟨_, fun _ _ => ?_, this⟩
    unfold Builtin.firstCells
    simp only [Sem.run_pure]
    congr 1
    apply Array.ext'
    have hex' : ((⟨⟨strBytes len m⟩⟩ : ByteArray).extract 0 n) = bstr ((strBytes len m).take n) := bstr_extract _ _ _
    rw [hex']
    simp
  · cases hs

/-- A row is freed and lies again, from a later place on. -/
theorem HeapR.take (hr : HeapR E G w0 ρ h w) (hn : h.next < LIMIT) {b : Nat} {l : Loc} (e : ρ b = some l) (hf : isFree (h.at b) = false) (hro : roObj (h.at b) = false)
    {a : AObj} {o : Obj} {base size : Nat} {w' : World} (hsz : w'.heap.size = w.heap.size) (hos : w'.os = w.os) (htp : w'.tape = w.tape) (hout : w'.output = w.output)
    (hself : w'.heap[l.blk]? = some o) (hoth : ∀ k, k ≠ l.blk → w'.heap[k]? = w.heap[k]?) (ho : ObjR E (ρ.add h.next ⟨l.blk, base, size⟩) a ⟨l.blk, base, size⟩ o) :
    HeapR E G w0 (ρ.add h.next ⟨l.blk, base, size⟩) ((freeAt h b).push a) w' ∧ Ext ρ h (ρ.add h.next ⟨l.blk, base, size⟩) ((freeAt h b).push a) := by
  have hbl := hr.lt e
  have hbn : b < h.next := hr.dom b l e
  have hle : ρ.le (ρ.add h.next ⟨l.blk, base, size⟩) := Rho.le_add hr.fresh
  have hnx : (freeAt h b).next = h.next := rfl
  have hself' : ((freeAt h b).push a).at h.next = a := by rw [← hnx, Heap.at_push _ _ _ (by rw [hnx]; exact hn), if_pos rfl]
  have hat : ∀ x, x ≠ h.next → x ≠ b → ((freeAt h b).push a).at x = h.at x := fun x hx hxb => by
    rw [Heap.at_push _ _ _ (by rw [hnx]; exact hn), if_neg (by rw [hnx]; exact hx)]
    unfold freeAt; rw [Heap.at_put _ _ _ _ hbl, if_neg hxb]
  have hatb : ((freeAt h b).push a).at b = .free := by
    rw [Heap.at_push _ _ _ (by rw [hnx]; exact hn), if_neg (by rw [hnx]; omega)]
    unfold freeAt; rw [Heap.at_put _ _ _ _ hbl, if_pos rfl]
  have hlow := hr.low b l e hro hf
  refine ⟨⟨?_, ?_, ?_, ?_, ?_, ?_, ?_⟩, hle, by rw [Heap.next_push, hnx]; omega, ?_⟩
  · intro x k ex
    by_cases hx : x = h.next
    · subst hx
      rw [Rho.add_self] at ex
      simp only [Option.some.injEq] at ex; subst ex
      exact ⟨o, hself, by rw [hself']; exact ho⟩
    · rw [Rho.add_ne hx] at ex
      obtain ⟨o', h1, h2⟩ := hr.obj x k ex
      by_cases hxb : x = b
      · subst hxb
        rw [e] at ex; simp only [Option.some.injEq] at ex; subst ex
        exact ⟨o, hself, by rw [hatb]; trivial⟩
      · rw [hat x hx hxb]
        by_cases hk : k.blk = l.blk
        · cases hfx : isFree (h.at x) with
          | false => exact absurd hk (hr.sep x b k l ex e hfx hf hxb)
          | true =>
            refine ⟨o, by rw [hk]; exact hself, ?_⟩
            cases hax : h.at x <;> simp [isFree, hax] at hfx
            trivial
        · exact ⟨o', by rw [hoth _ hk]; exact h1, h2.mono hle⟩
  · intro x y k k' ex ey fx fy hne
    have hxb : x ≠ b := fun hx => by subst hx; rw [hatb] at fx; cases fx
    have hyb : y ≠ b := fun hy => by subst hy; rw [hatb] at fy; cases fy
    by_cases hx : x = h.next
    · subst hx
      rw [Rho.add_self] at ex
      simp only [Option.some.injEq] at ex; subst ex
      have hy : y ≠ h.next := Ne.symm hne
      rw [Rho.add_ne hy] at ey
      rw [hat y hy hyb] at fy
      exact fun hk => hr.sep y b k' l ey e fy hf hyb hk.symm
    · rw [Rho.add_ne hx] at ex
      rw [hat x hx hxb] at fx
      by_cases hy : y = h.next
      · subst hy
        rw [Rho.add_self] at ey
        simp only [Option.some.injEq] at ey; subst ey
        exact hr.sep x b k l ex e fx hf hxb
      · rw [Rho.add_ne hy] at ey
        rw [hat y hy hyb] at fy
        exact hr.sep x y k k' ex ey fx fy hne
  · intro x k ex
    rw [Heap.next_push, hnx]
    by_cases hx : x = h.next
    · omega
    · rw [Rho.add_ne hx] at ex; have := hr.dom x k ex; omega
  · intro x k ex f1 f2
    by_cases hx : x = h.next
    · subst hx
      rw [Rho.add_self] at ex
      simp only [Option.some.injEq] at ex; subst ex
      exact hlow
    · rw [Rho.add_ne hx] at ex
      by_cases hxb : x = b
      · subst hxb; rw [hatb] at f2; cases f2
      · rw [hat x hx hxb] at f1 f2; exact hr.low x k ex f1 f2
  · intro g hg
    obtain ⟨k, ek, h1⟩ := hr.glob g hg
    exact ⟨k, hle _ _ ek, h1⟩
  · refine ⟨hos.trans hr.below.os, htp.trans hr.below.tape, hout.trans hr.below.output, by rw [hsz]; exact hr.below.size, fun k hk => ?_⟩
    rw [hoth k (by omega)]; exact hr.below.block k hk
  · rw [Heap.next_push, hnx]; omega
  · intro x hx ex
    have hxb : x ≠ b := fun hx => by subst hx; rw [e] at ex; cases ex
    exact ⟨by rw [Rho.add_ne (by omega)]; exact ex, hat x (by omega) hxb⟩

/-- The arm of append that grows. -/
theorem run_append_grows {t u e : TypeId} {du : TypeDesc} {i : TypeInfo} {z : Value} (ht : P.underlying t = some (.slice e)) (hu : P.underlying u = some du) (hdu : ∀ k, du ≠ .int k)
    (hi : P.info? e = some i) (hz : i.zero = some z) {rest : List TypeId} {ty : TypeId} {base : Option Addr} {len cap n : Nat} {x : Value} {old new : List Value}
    (hx : (Builtin.lenOf x).run P w = .ok n w) (hold : (Builtin.firstCells i.size len (.slice base len cap)).run P w.drew = .ok ⟨old⟩ w.drew)
    (hnew : (Builtin.firstCells i.size n x).run P w.drew = .ok ⟨new⟩ w.drew) (hg : cap < len + n) (hby : (len + n) * i.bytes ≤ 10000000) (hb1 : 1 ≤ i.bytes) (hcap : z.cells.size = i.size) :
    ∃ c, len + n ≤ c ∧ ∃ zs : List Value, zs.length = (c - (len + n)) * i.size ∧
      (Builtin.append_ ⟨t :: u :: rest⟩ ty #[.slice base len cap, x]).run P w = .ok (.slice (some ⟨w.heap.size, 0, none⟩) (len + n) c) (w.drew.alloc (.cells ⟨old ++ new ++ zs⟩ e)) := by
  have hneed : len + n ≤ 10000000 := Nat.le_trans (Nat.le_mul_of_pos_right _ hb1) hby
  refine ⟨(Question.appendCap (len + n) cap e).cut (w.tape w.drawn (.appendCap (len + n) cap e)), Nat.le_add_right _ _, (Builtin.zeroCells z.cells ((Question.appendCap (len + n) cap e).cut (w.tape w.drawn (.appendCap (len + n) cap e)) - (len + n))).toList, ?_, ?_⟩
  · simp [Builtin.zeroCells, hcap]
  · have h1 : ¬ (len + n ≤ cap) := by omega
    have h2 : ¬ (((len + n : Nat) : Int) > IntKind.i64.max ∧ (False ∨ i.bytes = 0)) := by
      rintro ⟨_, h3 | h3⟩
      · cases h3
      · omega
    have h3 : ¬ (Builtin.nextslicecap (len + n) cap * i.bytes > 2 ^ 48) := by
      have := nextslicecap_le hg
      have h4 : Builtin.nextslicecap (len + n) cap * i.bytes ≤ 2 * (len + n) * i.bytes := Nat.mul_le_mul_right _ this
      rw [Nat.mul_assoc] at h4
      omega
    have hch : (choose (.appendCap (len + n) cap e)).run P w = .ok ((Question.appendCap (len + n) cap e).cut (w.tape w.drawn (.appendCap (len + n) cap e))) w.drew := by
      rw [run_choose]
      simp only [Question.forced, Bool.false_eq_true, if_false]
      rfl
    have hrow : (⟨old⟩ ++ ⟨new⟩ ++ Builtin.zeroCells z.cells ((Question.appendCap (len + n) cap e).cut (w.tape w.drawn (.appendCap (len + n) cap e)) - (len + n)) : Array Value) =
        ⟨old ++ new ++ (Builtin.zeroCells z.cells ((Question.appendCap (len + n) cap e).cut (w.tape w.drawn (.appendCap (len + n) cap e)) - (len + n))).toList⟩ := by
      apply Array.ext'
      simp
    unfold Builtin.append_
    simp only [List.getElem?_toArray, List.getElem?_cons_zero, List.getElem?_cons_succ, Sem.run_bind, run_underlying_some ht, run_underlying_some hu, Result.andThen_ok, run_sizeOf_some hi, Sem.run_pure]
    cases du
    case int k => exact absurd rfl (hdu k)
    all_goals
      simp only [Bool.false_eq_true, if_false, hx, Result.andThen_ok, h1, Sem.run_bind, run_typeInfo_some hi, h2, h3, Sem.run_pure, hch, run_askRoom, hold, hnew, Bool.not_false, if_true, run_zeroValue_some hi hz, newRow, run_newObj, hrow]
      rfl

/-- A row that grew. -/
theorem grow_row (hr : HeapR E G w0 ρ h w) (hn : h.next < LIMIT) {old new : AV} {e size need fz : Nat} {ob : AObj} (hob : newCells (old.append new) e true fz false = some ob) {os ns zs : List Value} (ho : CL E ρ old os) (hnw : CL E ρ new ns)
    {c : Nat} (hlen : os.length + ns.length = need * (size + 1)) (hc : need ≤ c) (hzs : zs.length = (c - need) * (size + 1)) {s : Sem Value}
    (hs : s.run P w = .ok (.slice (some ⟨w.heap.size, 0, none⟩) need c) (w.drew.alloc (.cells ⟨os ++ ns ++ zs⟩ e))) :
    WroteV E G w0 ρ h P (.slice h.next 0 need 0 (size + 1)) (h.push ob) s w := by
  have hrow := newCells_rel (ys := zs) (blk := w.heap.size) (lo := 0) (hi := 0) hob (ho.append hnw) (fun hh => by cases hh) (Nat.le_refl _) (fun p h1 h2 => by omega)
  have hle : ρ.le (ρ.add h.next ⟨w.heap.size, 0, (os ++ ns ++ zs).length⟩) := Rho.le_add hr.fresh
  obtain ⟨g1, g2⟩ := hr.drew.push hn (o := .cells ⟨os ++ ns ++ zs⟩ e) (a := ob) (base := 0) (size := (os ++ ns ++ zs).length) (hrow.mono hle)
  refine ⟨_, _, _, hs, g1, g2, ⟨_, c, Rho.add_self, rfl, ?_, hc⟩⟩
  show 0 + 0 + c * (size + 1) = (os ++ ns ++ zs).length
  simp only [List.length_append, hlen, hzs]
  rw [← Nat.add_mul, Nat.add_sub_of_le hc]
  omega

end Go.AM
namespace Go.AM
open Go.RowKit (Below)
variable {E : Nat → Value} {G : Nat} {w0 : World} {ρ : Rho} {h : Heap} {w : World} {P : Program}

/-- The arm of append with room. -/
theorem run_append_room {t u e : TypeId} {du : TypeDesc} {i : TypeInfo} (ht : P.underlying t = some (.slice e)) (hu : P.underlying u = some du) (hdu : ∀ k, du ≠ .int k)
    (hi : P.info? e = some i) {rest : List TypeId} {ty : TypeId} {blk off len cap n : Nat} {x : Value} {new : List Value} {w' : World}
    (hx : (Builtin.lenOf x).run P w = .ok n w) (hnew : (Builtin.firstCells i.size n x).run P w = .ok ⟨new⟩ w) (hg : len + n ≤ cap)
    (hst : (storeCells ⟨blk, off + len * i.size, none⟩ new).run P w = .ok () w') :
    (Builtin.append_ ⟨t :: u :: rest⟩ ty #[.slice (some ⟨blk, off, none⟩) len cap, x]).run P w = .ok (.slice (some ⟨blk, off, none⟩) (len + n) cap) w' := by
  unfold Builtin.append_
  simp only [List.getElem?_toArray, List.getElem?_cons_zero, List.getElem?_cons_succ, Sem.run_bind, run_underlying_some ht, run_underlying_some hu, Result.andThen_ok, run_sizeOf_some hi, Sem.run_pure]
  cases du
  case int k => exact absurd rfl (hdu k)
  all_goals
    simp only [Bool.false_eq_true, if_false, hx, Result.andThen_ok, hg, if_true, Sem.run_bind, Sem.run_pure, Bool.not_false, hnew, addr_add, hst]

theorem run_append_empty {t u e : TypeId} {du : TypeDesc} {i : TypeInfo} (ht : P.underlying t = some (.slice e)) (hu : P.underlying u = some du) (hdu : ∀ k, du ≠ .int k)
    (hi : P.info? e = some i) {rest : List TypeId} {ty : TypeId} {x : Value} {new : List Value}
    (hx : (Builtin.lenOf x).run P w = .ok 0 w) (hnew : (Builtin.firstCells i.size 0 x).run P w = .ok ⟨new⟩ w) :
    (Builtin.append_ ⟨t :: u :: rest⟩ ty #[.slice none 0 0, x]).run P w = .ok (.slice none 0 0) w := by
  unfold Builtin.append_
  simp only [List.getElem?_toArray, List.getElem?_cons_zero, List.getElem?_cons_succ, Sem.run_bind, run_underlying_some ht, run_underlying_some hu, Result.andThen_ok, run_sizeOf_some hi, Sem.run_pure]
  cases du
  case int k => exact absurd rfl (hdu k)
  all_goals
    simp only [Bool.false_eq_true, if_false, hx, Result.andThen_ok, Nat.add_zero, Nat.le_refl, if_true, Sem.run_bind, Sem.run_pure, Bool.not_false, hnew]

theorem mul_le_of {a b c d s : Nat} (h : d + a * (s + 1) ≤ b) (h' : d + c * (s + 1) = b) : a ≤ c := by
  rcases Nat.lt_or_ge c a with hlt | hge
  · have : (c + 1) * (s + 1) ≤ a * (s + 1) := Nat.mul_le_mul_right _ hlt
    rw [Nat.add_mul] at this
    omega
  · exact hge

theorem append_sound (hE : ∀ i, (E i).oneCell' = true) (hr : HeapR E G w0 ρ h w) (hnx : h.next < LIMIT) {ts : List Nat} {s x : AV} {r : Wr} (hs : appendA P h ts s x = some r) {vs vx : Value} (hv : VR E ρ s vs) (hu : VR E ρ x vx) (ty : TypeId) :
    ∃ a h', r = .val a h' ∧ WroteV E G w0 ρ h P a h' (Builtin.append_ ⟨ts⟩ ty #[vs, vx]) w := by
  unfold appendA at hs
  split at hs
  · rename_i t u rest
    split at hs
    · rename_i e du ht hdt
      split at hs
      · rename_i z bytes n zc hsz hby hln hzc
        have hdu : ∀ k, du ≠ .int k := by
          intro k hk; subst hk; simp at hsz
        have hsz' : sizeOfT P e = some (z + 1) := by
          revert hsz; cases du <;> simp
        obtain ⟨i, hi, his⟩ := sizeOfT_some hsz'
        obtain ⟨i', hi', hib⟩ := bytesOfT_some hby
        have : i' = i := by rw [hi] at hi'; simpa using hi'.symm
        subst this
        obtain ⟨i'', zv, hi'', hzv, hzcl⟩ := CL.zeroCells (ρ := ρ) hE hzc
        have : i'' = i' := by rw [hi] at hi''; simpa using hi''.symm
        subst this
        have hx := lenOf_sound (P := P) (w := w) hln hu
        split at hs
        · rename_i new hfc
          obtain ⟨ns, k1, k2⟩ := firstCells_sound (P := P) hr hfc hu
          cases hb : (Nat.beq zc.len (z + 1) && new.allOne && Nat.ble (n * bytes) 1000000 && Nat.ble 1 bytes && Nat.beq new.len (n * (z + 1))) <;> rw [hb] at hs <;> simp only [cond_true, cond_false, reduceCtorEq] at hs
          simp only [Bool.and_eq_true, Nat.beq_eq, Nat.ble_eq] at hb
          obtain ⟨⟨⟨⟨b1, b2⟩, b3⟩, b4⟩, b5⟩ := hb
          have hzs : zv.cells.size = i''.size := by rw [his, ← b1, hzcl.len]; simp
          have hnl : ns.length = n * (z + 1) := by rw [← k2.len, b5]
          have hgrow : ∀ {base : Option Addr} {len cap : Nat} {old : AV} {os : List Value}, CL E ρ old os → os.length = len * (z + 1) → (∀ w', w'.heap = w.heap → (Builtin.firstCells i''.size len (.slice base len cap)).run P w' = .ok ⟨os⟩ w') → cap < len + n → (len + n) * bytes ≤ 10000000 →
              ∃ c, len + n ≤ c ∧ ∃ zs : List Value, zs.length = (c - (len + n)) * (z + 1) ∧
                (Builtin.append_ ⟨t :: u :: rest⟩ ty #[.slice base len cap, vx]).run P w = .ok (.slice (some ⟨w.heap.size, 0, none⟩) (len + n) c) (w.drew.alloc (.cells ⟨os ++ ns ++ zs⟩ e)) := by
            intro base len cap old os ho hol hof hlt hbb
            have := run_append_grows (P := P) (w := w) (rest := rest) (ty := ty) ht hdt hdu hi hzv hx (hof _ rfl) (by rw [his]; exact k1 _ rfl) hlt (by rw [hib]; exact hbb) (by rw [hib]; exact b4) hzs
            rw [his] at this
            exact this
          have hgrow2 : ∀ {base : Option Addr} {len cap : Nat} {old : AV} {os : List Value}, CL E ρ old os → os.length = len * (z + 1) → (∀ w', w'.heap = w.heap → (Builtin.firstCells i''.size len (.slice base len cap)).run P w' = .ok ⟨os⟩ w') → cap < len + n → (len + n) * bytes ≤ 10000000 →
              ∀ r, growA h old new e (z + 1) (len + n) = some r → ∃ a h', r = .val a h' ∧ WroteV E G w0 ρ h P a h' (Builtin.append_ ⟨t :: u :: rest⟩ ty #[.slice base len cap, vx]) w := by
            intro base len cap old os ho hol hof hlt hbb r hgr
            obtain ⟨c, q1, zs, q2, q3⟩ := hgrow ho hol hof hlt hbb
            unfold growA at hgr
            split at hgr
            · rename_i ob hob
              simp only [Option.some.injEq] at hgr; subst hgr
              exact ⟨_, _, rfl, grow_row hr hnx hob ho k2 (by rw [hol, hnl, ← Nat.add_mul]) q1 q2 q3⟩
            · cases hgr
          split at hs
          · obtain rfl := hv
            split at hs
            · simp only [Option.some.injEq] at hs; subst hs
              exact ⟨_, _, rfl, _, w, ρ, run_append_empty ht hdt hdu hi hx (by rw [his]; exact k1 _ rfl), hr, Ext.refl _ _, rfl⟩
            · rename_i n' hn0
              have hn1 : 0 < n := by
                cases n with
                | zero => exact absurd rfl hn0
                | succ n => omega
              have := hgrow2 (base := none) (len := 0) (cap := 0) (old := .nil) (os := []) CL.nil (by simp) (fun _ _ => rfl) (by omega) (by rw [Nat.zero_add]; omega) r (by simpa [AV.append] using hs)
              simpa using this
          · rename_i b off len cap
            obtain ⟨l, c, el, rfl, hcc⟩ := hv
            have hcc' : c = cap := hcc
            subst hcc'
            cases hb1 : Nat.ble (len + n) c <;> rw [hb1] at hs <;> simp only [cond_true, cond_false] at hs
            · have hlt : ¬ (len + n ≤ c) := by
                intro hc
                have : Nat.ble (len + n) c = true := by simpa [Nat.ble_eq] using hc
                rw [hb1] at this; cases this
              cases hb2 : Nat.ble ((len + n + c) * bytes) 10000000 <;> rw [hb2] at hs <;> simp only [cond_true, cond_false, reduceCtorEq] at hs
              have hb2' : (len + n + c) * bytes ≤ 10000000 := by simpa [Nat.ble_eq] using hb2
              have hb3 : (len + n) * bytes ≤ (len + n + c) * bytes := Nat.mul_le_mul_right _ (by omega)
              split at hs
              · rename_i old hold
                obtain ⟨os, h1, h2, h3⟩ := readCells_sound hr el hold
                exact hgrow2 h1 h2 (fun w' hh => run_firstCells_some w' _ _ _ _ _ os (by rw [his]; exact h2) (fun j v hj => by rw [cell_heap hh]; exact h3 j v hj)) (by omega) (by omega) r hs
              · cases hs
            · have hle : len + n ≤ c := by simpa [Nat.ble_eq] using hb1
              split at hs
              · rename_i h' hst
                simp only [Option.some.injEq] at hs; subst hs
                obtain ⟨w', g1, g2, g3⟩ := storeAt_sound (P := P) hE hr el k2 hst
                refine ⟨_, _, rfl, _, w', ρ, run_append_room ht hdt hdu hi hx (by rw [his]; exact k1 _ rfl) hle (by rw [his, Nat.add_assoc]; exact g1), g2, g3, ⟨l, c, el, rfl, rfl⟩⟩
              · cases hs
          · rename_i b off len cap z'
            obtain ⟨l, c, el, rfl, hcc, hlc⟩ := hv
            cases hb1 : (Nat.beq z' z && Nat.ble ((len + n) * bytes) 10000000) <;> rw [hb1] at hs <;> simp only [cond_true, cond_false, reduceCtorEq] at hs
            simp only [Bool.and_eq_true, Nat.beq_eq, Nat.ble_eq] at hb1
            obtain ⟨rfl, hbb⟩ := hb1
            split at hs
            · rename_i row m e' fz hat
              obtain ⟨cc, lo, hi', g1, g2, g3, g4, g5, g6⟩ := hr.cellsAt el hat
              cases hb2 : Nat.ble (off + (len + n) * (z' + 1)) m <;> rw [hb2] at hs <;> simp only [cond_true, cond_false] at hs
              · cases hb3 : (Nat.beq e e' && Nat.ble fz (off + len * (z' + 1)) && Nat.ble (off + len * (z' + 1)) m) <;> rw [hb3] at hs <;> simp only [cond_true, cond_false, reduceCtorEq] at hs
                simp only [Bool.and_eq_true, Nat.beq_eq, Nat.ble_eq] at hb3
                obtain ⟨⟨rfl, hfz⟩, hm⟩ := hb3
                split at hs
                · rename_i old hold
                  obtain ⟨os, h1, h2, h3⟩ := readCells_sound hr el hold
                  split at hs
                  · rename_i ob hob
                    simp only [Option.some.injEq] at hs; subst hs
                    refine ⟨_, _, rfl, ?_⟩
                    have hol : os.length = len * (z' + 1) := h2
                    rcases Nat.lt_or_ge c (len + n) with hlt | hle
                    · obtain ⟨c', q1, zs, q2, q3⟩ := hgrow h1 hol (fun w' hh => run_firstCells_some w' _ _ _ _ _ os (by rw [his]; exact h2) (fun j v hj => by rw [cell_heap hh]; exact h3 j v hj)) hlt hbb
                      obtain ⟨f1, f2⟩ := hr.forget el
                      obtain ⟨v, w', ρ', p1, p2, p3, p4⟩ := grow_row f1 (by exact hnx) hob h1 k2 (by rw [hol, hnl, ← Nat.add_mul]) q1 q2 q3
                      exact ⟨v, w', ρ', p1, p2, f2.trans p3, p4⟩
                    · obtain ⟨o1, o2, rfl⟩ := newCells_some hob
                      have hmul : (len + n) * (z' + 1) = len * (z' + 1) + n * (z' + 1) := Nat.add_mul _ _ _
                      have hcle : (len + n) * (z' + 1) ≤ c * (z' + 1) := Nat.mul_le_mul_right _ hle
                      obtain ⟨c', w', p1, p2, p3, p4, p5⟩ := run_storeCells (P := P) (blk := l.blk) (off := l.base + off + len * (z' + 1)) (e := e) (lo := lo) (hi := hi') ns 0 cc w g1 (by omega)
                        (fun p q1 q2 hp => by
                          rcases g6.2 p hp.1 hp.2 with q3 | ⟨q3, _⟩
                          · omega
                          · cases q3) (CL.allOne hE k2 b2)
                      have happ := h1.append k2
                      have hlen := happ.len
                      simp only [List.length_append] at hlen
                      have hrow : ObjR E (ρ.add h.next ⟨l.blk, l.base + off, l.size⟩) (.cells (rowLay (old.append new) 0 .leaf) (old.append new).len e true (fz - off) false false) ⟨l.blk, l.base + off, l.size⟩ (.cells c' e (lo, hi')) := by
                        refine ObjR.mono (Rho.le_add hr.fresh) ⟨c', e, lo, hi', rfl, by rw [p4, g2], ?_, (fun hh => nomatch hh), ?_, fun _ => ⟨rfl, g6.1, ?_⟩⟩
                        · show l.base + off + (old.append new).len ≤ l.size
                          omega
                        · intro j hj
                          rw [rowLay_get _ _ _ _ (by omega), if_pos (by omega)]
                          obtain ⟨a, ha, hav⟩ := happ.nth_some (i := j) (v := (os ++ ns)[j]'(by simp; omega)) (by simp)
                          refine ⟨(os ++ ns)[j]'(by simp; omega), ?_, by simp only [Nat.sub_zero, ha, Option.getD_some]; exact hav⟩
                          show c'[l.base + off + j]? = _
                          rw [p5]
                          simp only [Nat.add_zero]
                          by_cases hj' : j < os.length
                          · rw [if_neg (by omega), List.getElem_append_left hj']
                            have hc3 := h3 j os[j] (by simp)
                            rw [addr_add, cell_of_cells g1] at hc3
                            exact hc3
                          · rw [if_pos (by omega), List.getElem_append_right (by omega), show l.base + off + j - (l.base + off + len * (z' + 1)) = j - os.length from by omega]
                            simp
                        · intro p q1 q2
                          rcases g6.2 p q1 q2 with q3 | ⟨q3, _⟩
                          · left; show p < l.base + off + (fz - off); omega
                          · cases q3
                      obtain ⟨t1, t2⟩ := hr.take hnx el (by rw [hat]; rfl) (by rw [hat]; rfl) p2.size p2.os p2.tape p2.output p3 p2.other hrow
                      refine ⟨_, w', _, run_append_room ht hdt hdu hi hx (by rw [his]; exact k1 _ rfl) hle (by rw [his]; exact p1), t1, t2, ⟨_, c, Rho.add_self, ?_, ?_, hle⟩⟩
                      · rfl
                      · show l.base + off + 0 + c * (z' + 1) = l.size
                        omega
                  · cases hs
                · cases hs
              · have hle : off + (len + n) * (z' + 1) ≤ m := by simpa [Nat.ble_eq] using hb2
                have hlec : len + n ≤ c := mul_le_of (d := l.base + off) (s := z') (b := l.size) (by omega) hcc
                split at hs
                · rename_i h' hst
                  simp only [Option.some.injEq] at hs; subst hs
                  obtain ⟨w', q1, q2, q3⟩ := storeAt_sound (P := P) hE hr el k2 hst
                  refine ⟨_, _, rfl, _, w', ρ, run_append_room ht hdt hdu hi hx (by rw [his]; exact k1 _ rfl) hlec (by rw [his, Nat.add_assoc]; exact q1), q2, q3, ⟨l, c, el, rfl, hcc, hlec⟩⟩
                · cases hs
            · cases hs
          · cases hs
        · cases hs
      · cases hs
    · cases hs
  · cases hs

end Go.AM
namespace Go.AM
open Go.RowKit (Below)
variable {E : Nat → Value} {G : Nat} {w0 : World} {ρ : Rho} {h : Heap} {w : World} {P : Program}

theorem copy_sound (hE : ∀ i, (E i).oneCell' = true) (hr : HeapR E G w0 ρ h w) {ts : List Nat} {d x : AV} {r : Wr} (hs : copyA P h ts d x = some r) {vd vx : Value} (hv : VR E ρ d vd) (hu : VR E ρ x vx) (ty : TypeId) :
    ∃ a h', r = .val a h' ∧ WroteV E G w0 ρ h P a h' (Builtin.copy_ ⟨ts⟩ ty #[vd, vx]) w := by
  unfold copyA at hs
  split at hs
  · rename_i t rest
    split at hs
    · rename_i e ht
      split at hs
      · rename_i s ld lx hsz hld hlx
        obtain ⟨i, hi, his⟩ := sizeOfT_some hsz
        have h1 := lenOf_sound (P := P) (w := w) hld hv
        have h2 := lenOf_sound (P := P) (w := w) hlx hu
        simp only at hs
        split at hs
        · rename_i c hfc
          obtain ⟨cs, k1, k2⟩ := firstCells_sound (P := P) hr hfc hu
          split at hs
          · obtain rfl := hv
            simp only [Option.some.injEq] at hs; subst hs
            refine ⟨_, _, rfl, .int .i64 (Nat.min lx ld : Nat), w, ρ, ?_, hr, Ext.refl _ _, by rw [mkInt_eq]; rfl⟩
            have hld0 : ld = 0 := by
              have : lenOfA .snil = some 0 := rfl
              rw [this] at hld; simpa using hld.symm
            subst hld0
            unfold Builtin.copy_
            simp only [List.getElem?_toArray, List.getElem?_cons_zero, List.getElem?_cons_succ, Sem.run_bind, run_underlying_some ht, Result.andThen_ok, run_sizeOf_some hi, h2, his, k1 w rfl, Sem.run_pure]
            rfl
          · rename_i b off len cap esz
            obtain ⟨l, c', el, rfl, _⟩ := hv
            split at hs
            · rename_i h' hst
              simp only [Option.some.injEq] at hs; subst hs
              obtain ⟨w', g1, g2, g3⟩ := storeAt_sound (P := P) hE hr el k2 hst
              have hld0 : ld = len := by
                have : lenOfA (.slice b off len cap esz) = some len := rfl
                rw [this] at hld; simpa using hld.symm
              subst hld0
              refine ⟨_, _, rfl, .int .i64 (Nat.min lx ld : Nat), w', ρ, ?_, g2, g3, by rw [mkInt_eq]; rfl⟩
              unfold Builtin.copy_
              simp only [List.getElem?_toArray, List.getElem?_cons_zero, List.getElem?_cons_succ, Sem.run_bind, run_underlying_some ht, Result.andThen_ok, run_sizeOf_some hi, h2, his, k1 w rfl, g1, Sem.run_pure]
              rfl
            · cases hs
          · cases hs
        · cases hs
      · cases hs
    · cases hs
  · cases hs

theorem clear_sound (hE : ∀ i, (E i).oneCell' = true) (hr : HeapR E G w0 ρ h w) {ts : List Nat} {x : AV} {r : Wr} (hs : clearA P h ts x = some r) {vx : Value} (hu : VR E ρ x vx) (ty : TypeId) :
    ∃ a h', r = .val a h' ∧ WroteV E G w0 ρ h P a h' (Builtin.clear_ ⟨ts⟩ ty #[vx]) w := by
  unfold clearA at hs
  split at hs
  · rename_i t rest
    split at hs
    · rename_i e ht
      obtain rfl := hu
      simp only [Option.some.injEq] at hs; subst hs
      refine ⟨_, _, rfl, .tuple #[], w, ρ, ?_, hr, Ext.refl _ _, VR.undef⟩
      unfold Builtin.clear_
      simp only [List.getElem?_toArray, List.getElem?_cons_zero, Sem.run_bind, run_underlying_some ht, Result.andThen_ok, Sem.run_pure]
    · rename_i e ht
      obtain ⟨a, c, rfl⟩ := hu
      simp only [Option.some.injEq] at hs; subst hs
      refine ⟨_, _, rfl, .tuple #[], w, ρ, ?_, hr, Ext.refl _ _, VR.undef⟩
      unfold Builtin.clear_
      simp only [List.getElem?_toArray, List.getElem?_cons_zero, Sem.run_bind, run_underlying_some ht, Result.andThen_ok, Sem.run_pure]
    · rename_i e b off cap esz ht
      obtain ⟨l, c, el, rfl, _⟩ := hu
      simp only [Option.some.injEq] at hs; subst hs
      refine ⟨_, _, rfl, .tuple #[], w, ρ, ?_, hr, Ext.refl _ _, VR.undef⟩
      unfold Builtin.clear_
      simp only [List.getElem?_toArray, List.getElem?_cons_zero, Sem.run_bind, run_underlying_some ht, Result.andThen_ok, Sem.run_pure]
    · rename_i e b off len cap esz hlen ht
      obtain ⟨l, c, el, rfl, _⟩ := hu
      split at hs
      · rename_i z hz
        obtain ⟨i, zv, hi, hzv, hzc⟩ := CL.zeroCells (ρ := ρ) hE hz
        cases hb : Nat.ble (len * z.len) 100000 <;> rw [hb] at hs <;> simp only [cond_true, cond_false, reduceCtorEq] at hs
        split at hs
        · rename_i h' hst
          simp only [Option.some.injEq] at hs; subst hs
          obtain ⟨w', g1, g2, g3⟩ := storeAt_sound (P := P) hE hr el (CL.repeatC hzc len) hst
          refine ⟨_, _, rfl, .tuple #[], w', ρ, ?_, g2, g3, VR.undef⟩
          have hz0 : (Builtin.zeroCells zv.cells len).toList = (List.replicate len zv.cells.toList).flatten := zeros_eq zv.cells len _ rfl
          have hl0 : len ≠ 0 := fun h0 => by subst h0; exact hlen rfl
          unfold Builtin.clear_
          cases len with
          | zero => exact absurd rfl hl0
          | succ len =>
            simp only [List.getElem?_toArray, List.getElem?_cons_zero, Sem.run_bind, run_underlying_some ht, Result.andThen_ok, run_zeroValue_some hi hzv, hz0, g1, Sem.run_pure]
        · cases hs
      · cases hs
    · cases hs
  · cases hs

theorem F2.eraseIdx {α β : Type} {R : α → β → Prop} {as : List α} {bs : List β} (h : F2 R as bs) : ∀ i, F2 R (as.eraseIdx i) (bs.eraseIdx i) := by
  induction h with
  | nil => intro i; exact .nil
  | cons h t ih =>
    intro i
    cases i with
    | zero => exact t
    | succ i => exact .cons h (ih i)

theorem delete_sound (hr : HeapR E G w0 ρ h w) {ts : List Nat} {m k : AV} {r : Wr} (hs : deleteA P h ts m k = some r) {vm vk : Value} (hm : VR E ρ m vm) (hk : VR E ρ k vk) (ty : TypeId) :
    ∃ a h', r = .val a h' ∧ WroteV E G w0 ρ h P a h' (Builtin.delete_ ⟨ts⟩ ty #[vm, vk]) w := by
  unfold deleteA at hs
  split at hs
  · rename_i t rest
    split at hs
    · rename_i kt et b ht
      cases hok : keyOk P kt k <;> rw [hok] at hs <;> simp only [cond_true, cond_false, reduceCtorEq] at hs
      obtain ⟨d, hd⟩ := keyOk_underlying hok
      obtain ⟨l, el, rfl⟩ := hm
      split at hs
      · rename_i es clock hma
        obtain ⟨ces, g1, g2⟩ := hr.mapAt el hma
        have hat := mapAt_some hma
        split at hs
        · rename_i i k' v' born hfk
          simp only [Option.some.injEq] at hs; subst hs
          obtain ⟨r, f1, f2⟩ := findKeyA_sound hr hk g2 hfk
          cases r with
          | none => exact f2.elim
          | some ju =>
            obtain ⟨j, u⟩ := ju
            obtain ⟨rfl, e1, ce, e2, _, e3⟩ := f2
            have hset := hr.set el (by rw [hat]; rfl) (by rw [hat]; rfl) (a := .map (es.eraseIdx i) clock) (o := .map ((⟨ces⟩ : Array MapEntry).eraseIdxIfInBounds i) clock)
              ⟨ces.eraseIdx i, by
                congr 1
                apply Array.ext'
                rw [Array.toList_eraseIdxIfInBounds], g2.eraseIdx i⟩
            refine ⟨_, _, rfl, .tuple #[], _, ρ, ?_, hset.1, hset.2, VR.undef⟩
            unfold Builtin.delete_
            simp only [List.getElem?_toArray, List.getElem?_cons_zero, List.getElem?_cons_succ, Sem.run_bind, run_underlying_some ht, Result.andThen_ok, run_getObj_m g1, checkKey_sound hok hk, run_findKey_of hd f1]
            simp only [run_setObj_ok g1 (rfl : isCells (.map _ _) = false), Result.andThen_ok, Sem.run_pure]
        · rename_i hfk
          simp only [Option.some.injEq] at hs; subst hs
          obtain ⟨r, f1, f2⟩ := findKeyA_sound hr hk g2 hfk
          cases r with
          | some ju => exact f2.elim
          | none =>
            refine ⟨_, _, rfl, .tuple #[], w, ρ, ?_, hr, Ext.refl _ _, VR.undef⟩
            have hself : ({ w with heap := w.heap.setIfInBounds l.blk (.map ⟨ces⟩ clock) } : World) = w := by
              have : w.heap.setIfInBounds l.blk (.map ⟨ces⟩ clock) = w.heap := by
                apply Array.ext_getElem?
                intro j
                by_cases hj : j = l.blk
                · subst hj; rw [g1]; simp [hr.blk_lt el]
                · rw [Array.getElem?_setIfInBounds_ne (Ne.symm hj)]
              rw [this]
            unfold Builtin.delete_
            simp only [List.getElem?_toArray, List.getElem?_cons_zero, List.getElem?_cons_succ, Sem.run_bind, run_underlying_some ht, Result.andThen_ok, run_getObj_m g1, checkKey_sound hok hk, run_findKey_of hd f1]
            simp only [run_setObj_ok g1 (rfl : isCells (.map _ _) = false), Result.andThen_ok, Sem.run_pure, hself]
        · cases hs
      · cases hs
    · rename_i kt et ht
      cases hok : keyOk P kt k <;> rw [hok] at hs <;> simp only [cond_true, cond_false, reduceCtorEq, Option.some.injEq] at hs
      subst hs
      obtain rfl := hm
      refine ⟨_, _, rfl, .tuple #[], w, ρ, ?_, hr, Ext.refl _ _, VR.undef⟩
      unfold Builtin.delete_
      simp only [List.getElem?_toArray, List.getElem?_cons_zero, List.getElem?_cons_succ, Sem.run_bind, run_underlying_some ht, Result.andThen_ok, checkKey_sound hok hk, Sem.run_pure]
    · cases hs
  · cases hs

/-! ### unsafe.String -/
theorem run_loadBytes {blk : Nat} : ∀ (n off : Nat) (acc : ByteArray) (xs : List Value) (l : List UInt8), xs.map byteOfV = l.map some → xs.length = n →
    (∀ j v, xs[j]? = some v → w.cell? ⟨blk, off + j, none⟩ = some v) → (loadBytes ⟨blk, off, none⟩ acc n).run P w = .ok (acc ++ bstr l) w := by
  intro n
  induction n with
  | zero =>
    intro off acc xs l hx hl _
    have : xs = [] := List.length_eq_zero_iff.1 hl
    subst this
    have : l = [] := by
      cases l with
      | nil => rfl
      | cons => cases hx
    subst this
    simp only [loadBytes, Sem.run_pure]
    congr 1
    apply ByteArray.ext
    rw [ByteArray.data_append]
    simp
  | succ n ih =>
    intro off acc xs l hx hl hc
    cases xs with
    | nil => simp at hl
    | cons x xs =>
      cases l with
      | nil => simp at hx
      | cons b l =>
        simp only [List.map_cons, List.cons.injEq] at hx
        obtain ⟨hx1, hx2⟩ := hx
        have hx0 := hc 0 x rfl
        have hload : (load ⟨blk, off, none⟩).run P w = .ok x w := run_load_cell (by simpa using hx0)
        unfold byteOfV at hx1
        split at hx1
        · rename_i m
          simp only [Option.some.injEq] at hx1
          have := ih (off + 1) (acc.push b) xs l hx2 (by simpa using hl) (fun j v hj => by rw [show off + 1 + j = off + (j + 1) from by omega]; exact hc (j + 1) v (by simpa using hj))
          simp only [loadBytes, Sem.run_bind, hload, Result.andThen_ok, addr_add]
          have hb : m.toNat.toUInt8 = b := by rw [← hx1]
          rw [hb, this]
          congr 1
          apply ByteArray.ext
          rw [ByteArray.data_append, ByteArray.data_append]
          simp
        · cases hx1

theorem heap_freeze {a : Addr} {n : Nat} (hn : n ≠ 0) {c : Array Value} {e : TypeId} {lo hi : Nat} (hc : w.heap[a.block]? = some (.cells c e (lo, hi))) :
    (w.freeze a n).heap[a.block]? = some (.cells c e (if lo == hi then (a.off, a.off + n) else (min lo a.off, max hi (a.off + n)))) ∧ (∀ k, k ≠ a.block → (w.freeze a n).heap[k]? = w.heap[k]?) ∧
      (w.freeze a n).heap.size = w.heap.size ∧ (w.freeze a n).os = w.os ∧ (w.freeze a n).tape = w.tape ∧ (w.freeze a n).output = w.output := by
  unfold World.freeze
  rw [if_neg hn]
  refine ⟨?_, fun k hk => ?_, by simp, rfl, rfl, rfl⟩
  · show (w.heap.modify a.block _)[a.block]? = _
    rw [Array.getElem?_modify, if_pos rfl, hc]
    rfl
  · show (w.heap.modify a.block _)[k]? = _
    rw [Array.getElem?_modify, if_neg (Ne.symm hk)]

/-- unsafe.String of a pointer and a number. -/
def stringAt (ts : Array TypeId) (p : Option Addr) (x : Value) : Sem Value := do
  let n ← asInt x
  let some pt := ts[0]? | stuck "unsafe.String: no argument types"
  if n < 0 then runtimePanic (.error "unsafe.String: len out of range")
  if n > IntKind.i64.max then unsupported (.unsafePointer "String: a length above the largest int")
  match p with
  | none =>
    if n = 0 then pure (.string .empty)
    else runtimePanic (.error "unsafe.String: ptr is nil and len is not zero")
  | some a =>
    if n = 0 then pure (.string .empty)
    else if ← variablesAt a (← elemOf pt) n.toNat then do
      let s ← loadBytes a .empty n.toNat
      freeze a n.toNat
      pure (.string s)
    else unsupported (.unsafePointer "String: not so many bytes at ptr")

theorem unsafeString_eq (ts : Array TypeId) (ty : TypeId) (p : Option Addr) (x : Value) : Builtin.unsafeString_ ts ty #[.pointer p, x] = stringAt ts p x := rfl

theorem unsafeString_sound (hr : HeapR E G w0 ρ h w) {ts : List Nat} {p x : AV} {r : Wr} (hs : unsafeStringA P h ts p x = some r) {vp vx : Value} (hp : VR E ρ p vp) (hx : VR E ρ x vx) (ty : TypeId) :
    ∃ a h', r = .val a h' ∧ WroteV E G w0 ρ h P a h' (Builtin.unsafeString_ ⟨ts⟩ ty #[vp, vx]) w := by
  unfold unsafeStringA at hs
  split at hs
  · rename_i t rest
    split at hs
    · rename_i u k n ht
      obtain rfl := hx
      split at hs
      · obtain rfl := hp
        simp only [Option.some.injEq] at hs; subst hs
        refine ⟨_, _, rfl, .string .empty, w, ρ, ?_, hr, Ext.refl _ _, ⟨by decide, rfl⟩⟩
        rw [unsafeString_eq]
        unfold stringAt
        simp [asInt, asIntOf, IntKind.max, IntKind.signed, IntKind.bits]
      · obtain ⟨l, el, rfl⟩ := hp
        simp only [Option.some.injEq] at hs; subst hs
        refine ⟨_, _, rfl, .string .empty, w, ρ, ?_, hr, Ext.refl _ _, ⟨by decide, rfl⟩⟩
        rw [unsafeString_eq]
        unfold stringAt
        simp [asInt, asIntOf, IntKind.max, IntKind.signed, IntKind.bits]
      · rename_i b off hn0
        obtain ⟨l, el, rfl⟩ := hp
        split at hs
        · rename_i row m e opn fz ro hat
          cases hb : (!ro && Nat.beq (P.cellsOf e) 1 && Nat.ble (off + n) m && sameLayout P P.depth e u && Nat.ble n 1000000000 && Nat.blt 0 P.depth) <;> rw [hb] at hs <;> simp only [cond_true, cond_false, reduceCtorEq] at hs
          simp only [Bool.and_eq_true, Bool.not_eq_true', Nat.beq_eq, Nat.ble_eq, Nat.blt_eq] at hb
          obtain ⟨⟨⟨⟨⟨rfl, b2⟩, b3⟩, b4⟩, b5⟩, b6⟩ := hb
          split at hs
          · rename_i s hst
            simp only [Option.some.injEq] at hs; subst hs
            obtain ⟨c, lo, hi, g1, g2, g3, g4, g5, g6⟩ := hr.cellsAt el hat
            have hread : readCells h b off n = some (rowRead row n off) := by
              cases n with
              | zero => rfl
              | succ n =>
                have hle : Nat.ble (off + (n + 1)) m = true := by simpa [Nat.ble_eq] using b3
                simp [readCells, hat, hle]
            obtain ⟨xs, h1, h2, h3⟩ := readCells_sound hr el hread
            obtain ⟨bs, q1, q2⟩ := bytesStr_bytes h1 (pre := []) hst
            subst q2
            have hn : n ≠ 0 := fun h0 => by subst h0; exact hn0 rfl
            obtain ⟨f1, f2, f3, f4, f5, f6⟩ := heap_freeze (w := w) (a := ⟨l.blk, l.base + off, none⟩) hn g1
            have hturn := hr.turn el (by rw [hat]; rfl) (by rw [hat]; rfl) (a := .cells row m e opn (Nat.max fz (off + n)) false false) f3 f4 f5 f6 f1 f2
              (by
                refine ⟨c, e, (if lo == hi then (l.base + off, l.base + off + n) else (min lo (l.base + off), max hi (l.base + off + n))).1, (if lo == hi then (l.base + off, l.base + off + n) else (min lo (l.base + off), max hi (l.base + off + n))).2, rfl, g2, g3, g4, g5, fun _ => ⟨rfl, ?_, ?_⟩⟩
                · have := g6.1
                  split
                  · show l.base + off ≤ l.base + off + n; omega
                  · show min lo (l.base + off) ≤ max hi (l.base + off + n); omega
                · intro p p1 p2
                  left
                  have hmx : Nat.max fz (off + n) = max fz (off + n) := rfl
                  rw [hmx]
                  by_cases hlh : lo = hi
                  · rw [if_pos (by simpa using hlh)] at p1 p2
                    simp only at p1 p2
                    omega
                  · rw [if_neg (by simpa using hlh)] at p1 p2
                    simp only at p1 p2
                    have hl := g6.1
                    rcases g6.2 (hi - 1) (by omega) (by omega) with k1 | ⟨k1, _⟩
                    · omega
                    · cases k1)
            refine ⟨_, _, rfl, .string (bstr bs), _, ρ, ?_, hturn.1, hturn.2, VR.strOf _⟩
            have hva : (variablesAt ⟨l.blk, l.base + off, none⟩ u n).run P w = .ok true w := by
              unfold variablesAt
              simp only [Sem.run_bind, run_program, Result.andThen_ok, run_shape, shape_cells g1, Sem.run_pure]
              congr 1
              cases hdp : P.depth with
              | zero => omega
              | succ dp =>
                unfold liesAt
                rw [Bool.or_eq_true]
                left
                rw [hdp] at b4 ⊢
                unfold rowAt
                have e1 : (l.base + off) + n ≤ c.size := by omega
                simp [b2, b4, Nat.mod_one, e1]
            have hlb := run_loadBytes (P := P) (w := w) (blk := l.blk) n (l.base + off) .empty xs bs q1 h2 (fun j v hj => by have := h3 j v hj; rwa [addr_add] at this)
            have hem : ByteArray.empty ++ bstr bs = bstr bs := by
              apply ByteArray.ext
              rw [ByteArray.data_append]
              simp
            rw [unsafeString_eq]
            unfold stringAt
            have hneg : ¬ (Int.ofNat n < 0) := by simp only [Int.ofNat_eq_natCast]; omega
            have hbig : ¬ (Int.ofNat n > IntKind.i64.max) := by simp only [Int.ofNat_eq_natCast, IntKind.max, IntKind.signed, IntKind.bits]; simp; omega
            have hz : ¬ (Int.ofNat n = 0) := by simp only [Int.ofNat_eq_natCast]; omega
            have htn : (Int.ofNat n).toNat = n := rfl
            have hel : (elemOf t).run P w = .ok u w := by
              unfold elemOf
              simp only [Sem.run_bind, run_underlying_some ht, Result.andThen_ok, Sem.run_pure]
            simp only [asInt, asIntOf, Sem.run_bind, Sem.run_pure, Result.andThen_ok, List.getElem?_toArray, List.getElem?_cons_zero, hneg, hbig, hz, if_false, htn, hel, hva, if_true, hlb, hem, run_freeze]
          · cases hs
        · cases hs
      · cases hs
    · cases hs
  · cases hs

end Go.AM
namespace Go.AM
open Go.RowKit (Below)
variable {E : Nat → Value} {G : Nat} {w0 : World} {ρ : Rho} {h : Heap} {w : World} {P : Program}

theorem run_u (s : Sem Unit) {w' : World} (hs : s.run P w = .ok () w') : (do s; pure Next.skip : Sem Next).run P w = .ok .skip w' := by
  simp only [Sem.run_bind, hs, Result.andThen_ok, Sem.run_pure]

theorem writeA_sound (hE : ∀ i, (E i).oneCell' = true) (hr : HeapR E G w0 ρ h w) (hnx : h.next < LIMIT) {o : Oper} {vals : List AV} {r : Wr} (hs : writeA P h o vals = some r) {ev : Operand → Value} (hv : F2 (VR E ρ) vals (o.op.operands.toList.map ev)) :
    Wrote E G w0 ρ h P r (execOp ev o) w := by
  obtain ⟨dst, op, ty, pos, after, guard⟩ := o
  cases op
  case store t a x =>
    obtain ⟨p, q, rfl, hp, hq⟩ := F2.inv_two (show F2 (VR E ρ) vals [ev a, ev x] from hv)
    cases p <;> try (simp only [writeA, reduceCtorEq] at hs; done)
    rename_i b off
    simp only [writeA] at hs
    obtain ⟨l, el, hl⟩ := hp
    split at hs
    · rename_i h' hst
      simp only [Option.some.injEq] at hs; subst hs
      obtain ⟨w', g1, g2, g3⟩ := storeVar_sound (P := P) hE hr el hq hst
      refine ⟨w', ρ, run_u _ ?_, g2, g3⟩
      show (Instr.storeAt t (ev a) (ev x)).run P w = _
      rw [hl]
      exact g1
    · cases hs
  case mapUpdate t m k x =>
    obtain ⟨a, b, c, rfl, ha, hb, hc⟩ := F2.inv_three (show F2 (VR E ρ) vals [ev m, ev k, ev x] from hv)
    simp only [writeA] at hs
    obtain ⟨h', rfl, hw⟩ := mapUpdate_sound (P := P) hr hs ha hb hc
    exact hw.next
  case insert t m k x =>
    obtain ⟨a, b, c, rfl, ha, hb, hc⟩ := F2.inv_three (show F2 (VR E ρ) vals [ev m, ev k, ev x] from hv)
    simp only [writeA] at hs
    obtain ⟨h', rfl, hw⟩ := mapUpdate_sound (P := P) hr hs ha hb hc
    exact hw.next
  case next it isString =>
    obtain ⟨a, rfl, ha⟩ := F2.inv_one (show F2 (VR E ρ) vals [ev it] from hv)
    simp only [writeA] at hs
    obtain ⟨a', h', rfl, hw⟩ := next_sound (P := P) hr hs ha ty
    exact hw.next
  case range t x =>
    obtain ⟨a, rfl, ha⟩ := F2.inv_one (show F2 (VR E ρ) vals [ev x] from hv)
    simp only [writeA] at hs
    split at hs
    · rename_i kt et ht
      have hx : ev x = .map none := ha
      simp only [Option.some.injEq] at hs; subst hs
      obtain ⟨g1, g2⟩ := hr.push hnx (a := .mit none 0 [] 0) (o := .mapIter none 0 #[] 0) (base := 0) (size := 0) ⟨rfl, none, [], rfl, SeenR.nil, rfl⟩
      refine ⟨.pointer (some ⟨w.heap.size, 0, none⟩), _, _, run_v _ ?_, g1, g2, ⟨_, Rho.add_self, rfl⟩⟩
      simp only [Instr.range, Sem.run_bind, run_underlying_some ht, Result.andThen_ok, hx, Sem.run_pure, run_newObj]
      rfl
    · rename_i kt et b ht
      obtain ⟨l, el, hx⟩ := ha
      split at hs
      · rename_i es clock hm
        obtain ⟨ces, k1, k2⟩ := hr.mapAt el hm
        simp only [Option.some.injEq] at hs; subst hs
        have hne : b ≠ h.next := by have := hr.dom b l el; omega
        obtain ⟨g1, g2⟩ := hr.push hnx (a := .mit (some b) clock [] clock) (o := .mapIter (some l.blk) clock #[] clock) (base := 0) (size := 0) ⟨rfl, some l.blk, [], rfl, SeenR.nil, l, by rw [Rho.add_ne hne]; exact el, rfl⟩
        refine ⟨.pointer (some ⟨w.heap.size, 0, none⟩), _, _, run_v _ ?_, g1, g2, ⟨_, Rho.add_self, rfl⟩⟩
        simp only [Instr.range, Sem.run_bind, run_underlying_some ht, Result.andThen_ok, hx, run_getObj_m k1, Sem.run_pure, run_newObj]
        rfl
      · cases hs
    · cases hs
  case call c =>
    obtain ⟨callee, args, argTypes⟩ := c
    cases callee
    case value f => simp only [writeA, reduceCtorEq] at hs
    case invoke rcv m => simp only [writeA, reduceCtorEq] at hs
    case builtin b =>
      have hv' : F2 (VR E ρ) vals (args.toList.map ev) := by simpa [Op.operands, Call.operands] using hv
      simp only [writeA] at hs
      obtain ⟨ats⟩ := argTypes
      simp only at hs
      have hb : execOp ev { dst := dst, op := .call ⟨.builtin b, args, ⟨ats⟩⟩, type := ty, pos := pos, after := after, guard := guard } =
          builtin b ⟨ats⟩ ty (args.map fun | .const _ => true | _ => false) (args.map ev) := rfl
      rw [hb]
      have hm : args.map ev = ⟨args.toList.map ev⟩ := by apply Array.ext'; simp
      rw [hm]
      split at hs
      · obtain ⟨v, u, h1, h2, h3⟩ := F2.left_two hv'
        obtain ⟨a, h', rfl, hw⟩ := append_sound (P := P) hE hr hnx hs h2 h3 ty
        rw [h1]; exact hw.next
      · obtain ⟨v, u, h1, h2, h3⟩ := F2.left_two hv'
        obtain ⟨a, h', rfl, hw⟩ := copy_sound (P := P) hE hr hs h2 h3 ty
        rw [h1]; exact hw.next
      · obtain ⟨v, h1, h2⟩ := F2.left_one hv'
        obtain ⟨a, h', rfl, hw⟩ := clear_sound (P := P) hE hr hs h2 ty
        rw [h1]; exact hw.next
      · obtain ⟨v, u, h1, h2, h3⟩ := F2.left_two hv'
        obtain ⟨a, h', rfl, hw⟩ := delete_sound (P := P) hr hs h2 h3 ty
        rw [h1]; exact hw.next
      · obtain ⟨v, u, h1, h2, h3⟩ := F2.left_two hv'
        obtain ⟨a, h', rfl, hw⟩ := unsafeString_sound (P := P) hr hs h2 h3 ty
        rw [h1]; exact hw.next
      · cases hs
  all_goals (simp only [writeA, reduceCtorEq] at hs)

/-! ### Functions without a body -/
theorem find_of {fn : Func} {n : String} (hn : fn.name = n) {e : Array Value → Sem Value} (h1 : Extern.allGenericRows.lookup n = none) (h2 : Extern.allTypedRows.lookup n = none) (h3 : Extern.allRows.lookup n = some e) : Extern.find fn = some e := by
  unfold Extern.find
  simp only [hn, h1, h2, h3]
  rfl

theorem findNext_of {fn : Func} {n : String} (hn : fn.name = n) (ho : fn.origin = "") (h1 : Extern.allNextRows.lookup n = none) (h2 : Extern.allNextRows.lookup "" = none) : Extern.findNext fn = none := by
  unfold Extern.findNext
  simp only [hn, ho, h1, h2]
  rfl

theorem findByte_eq (len n c : Nat) : ∀ (k i : Nat), i + k = len → findByte len n c k i = (List.range' i k).find? (fun j => Nat.beq (strByte len n j) c) := by
  intro k
  induction k with
  | zero => intro i _; rfl
  | succ k ih =>
    intro i hi
    simp only [findByte, List.range'_succ, List.find?_cons]
    cases Nat.beq (strByte len n i) c
    · simp only [cond_false]; exact ih (i + 1) (by omega)
    · rfl

theorem find_congr {α : Type} {p q : α → Bool} : ∀ (l : List α), (∀ x ∈ l, p x = q x) → l.find? p = l.find? q
  | [], _ => rfl
  | a :: l, h => by
    simp only [List.find?_cons, h a (List.mem_cons_self ..)]
    rw [find_congr l (fun x hx => h x (List.mem_cons_of_mem _ hx))]

theorem indexByte_run {len n c : Nat} : ((Extern.BytealgIndexByte.indexByte #[.string (bstr (strBytes len n)), .int .u8 (Int.ofNat c)]).run P w) =
    .ok (match findByte len n (c % 256) len 0 with | some i => goInt i | none => goInt (-1)) w := by
  have h1 : findByte len n (c % 256) len 0 = (List.range (bstr (strBytes len n)).size).find? (fun i => (bstr (strBytes len n))[i]! == (Int.ofNat c).toNat.toUInt8) := by
    rw [findByte_eq len n (c % 256) len 0 (by omega), bstr_size, strBytes_length, List.range_eq_range']
    refine find_congr _ (fun j hj => ?_)
    simp only [List.mem_range', Nat.one_mul] at hj
    obtain ⟨j', hj1, rfl⟩ := hj
    have hlt : 0 + j' < (bstr (strBytes len n)).size := by rw [bstr_size, strBytes_length]; omega
    have hget := strBytes_get len n (0 + j') (by omega)
    have hb : (bstr (strBytes len n))[0 + j']! = UInt8.ofNat (strByte len n (0 + j')) := by
      rw [getElem!_pos (bstr (strBytes len n)) (0 + j') hlt]
      have : (strBytes len n)[0 + j']'(by rw [strBytes_length]; omega) = UInt8.ofNat (strByte len n (0 + j')) := by
        have h3 := List.getElem?_eq_some_iff.1 hget
        exact h3.2
      exact this
    rw [hb]
    have hs : strByte len n (0 + j') < 256 := Nat.mod_lt _ (by decide)
    rw [Bool.eq_iff_iff]
    simp only [Nat.beq_eq, beq_iff_eq]
    have hc : (Int.ofNat c).toNat = c := rfl
    rw [hc]
    constructor
    · intro he
      apply UInt8.toNat_inj.1
      show (UInt8.ofNat (strByte len n (0 + j'))).toNat = (UInt8.ofNat c).toNat
      simp only [UInt8.toNat_ofNat']
      omega
    · intro he
      have he' := congrArg UInt8.toNat he
      have h5 : (UInt8.ofNat (strByte len n (0 + j'))).toNat = (UInt8.ofNat c).toNat := he'
      simp only [UInt8.toNat_ofNat'] at h5
      omega
  show ((do
    let b ← Extern.Bytes.bytesOf (.string (bstr (strBytes len n)))
    let c ← Extern.Bytes.asByte (.int .u8 (Int.ofNat c))
    match (List.range b.size).find? fun i => b[i]! == c with
    | some i => pure (goInt i)
    | none => pure (goInt (-1)) : Sem Value)).run P w = _
  simp only [Extern.Bytes.bytesOf, Extern.Bytes.asByte, Sem.run_bind, Sem.run_pure, Result.andThen_ok, ← h1]
  split <;> rfl

theorem extA_sound {fn : Func} {f : Nat} (hf : P.funcs[f]? = some fn) (hname : (fn.name == "runtime.NumGoroutine") = false) (hb : fn.body.isNone = true) {args : List AV} {r : AV} (hs : extA fn args = some r) {vs : List Value} (hv : F2 (VR E ρ) args vs) :
    ∃ v, (callFunc f ⟨vs⟩).run P w = .ok (.value v) w ∧ VR E ρ r v := by
  unfold extA at hs
  split at hs
  · rename_i x hext
    simp only [Option.some.injEq] at hs; subst hs
    obtain ⟨v, rfl, hvv⟩ := F2.left_one hv
    unfold extOf at hext
    split at hext
    · rename_i ho
      split at hext
      · rename_i hn
        refine ⟨v, ?_, hvv⟩
        rw [run_callFunc_extern hf hname hb (findNext_of hn ho (by kernel_rfl) (by kernel_rfl)) (find_of hn (e := Extern.AbiNoEscape.same) (by kernel_rfl) (by kernel_rfl) (by kernel_rfl))]
        rfl
      · split at hext
        · simp at hext
        · split at hext <;> simp at hext
    · simp at hext
  · rename_i len n c hext
    obtain ⟨v, u, rfl, hvv, huu⟩ := F2.left_two hv
    obtain ⟨hlt, rfl⟩ := hvv
    obtain rfl := huu
    unfold extOf at hext
    split at hext
    · rename_i ho
      split at hext
      · simp at hext
      · split at hext
        · rename_i hn
          have hrun := run_callFunc_extern (w := w) (args := #[.string (bstr (strBytes len n)), .int .u8 (Int.ofNat c)]) hf hname hb (findNext_of hn ho (by kernel_rfl) (by kernel_rfl)) (find_of hn (e := Extern.BytealgIndexByte.indexByte) (by kernel_rfl) (by kernel_rfl) (by kernel_rfl))
          rw [indexByte_run] at hrun
          split at hs
          · rename_i i hfi
            simp only [Option.some.injEq] at hs; subst hs
            refine ⟨_, hrun, ?_⟩
            rw [hfi, mkInt_eq]; rfl
          · rename_i hfi
            simp only [Option.some.injEq] at hs; subst hs
            refine ⟨_, hrun, ?_⟩
            rw [hfi]; rfl
        · split at hext <;> simp at hext
    · simp at hext
  · rename_i len n c hext
    simp only [Option.some.injEq] at hs; subst hs
    obtain ⟨v, u, rfl, hvv, huu⟩ := F2.left_two hv
    obtain ⟨hlt, rfl⟩ := hvv
    obtain rfl := huu
    unfold extOf at hext
    split at hext
    · rename_i ho
      split at hext
      · simp at hext
      · split at hext
        · simp at hext
        · split at hext
          · rename_i hn
            have hrun := run_callFunc_extern (w := w) (args := #[.string (bstr (strBytes len n)), .int .u8 (Int.ofNat c)]) hf hname hb (findNext_of hn ho (by kernel_rfl) (by kernel_rfl)) (find_of hn (e := Extern.BytealgCount.count) (by kernel_rfl) (by kernel_rfl) (by kernel_rfl))
            rw [Lib.run_countString] at hrun
            refine ⟨_, hrun, ?_⟩
            rw [mkInt_eq]; rfl
          · simp at hext
    · simp at hext
  · cases hs

theorem digits_one : ∀ (n t : Nat) (acc : Array Value), (∀ v ∈ acc, v.oneCell' = true) → ∀ v ∈ Extern.BytealgMakeNoZero.digits n t acc, v.oneCell' = true
  | 0, _, _, h => h
  | n + 1, t, acc, h => by
    refine digits_one n (t / 256) _ (fun v hv => ?_)
    rcases Array.mem_push.1 hv with hv | hv
    · exact h v hv
    · subst hv; rfl

theorem makeNoZero_run (ps : Array TypeId) {t e : TypeId} (ht : P.underlying t = some (.slice e)) {n : Nat} (hn : n ≤ 281474976710656) :
    ∃ cs : Array Value, (Extern.BytealgMakeNoZero.makeNoZero ps #[t] #[.int .i64 (Int.ofNat n)]).run P w = .ok (.slice (some ⟨w.heap.size, 0, none⟩) n cs.size) (w.drew.drew.alloc (.cells cs e)) ∧ n ≤ cs.size ∧ ∀ v ∈ cs, v.oneCell' = true := by
  have hdef : Extern.BytealgMakeNoZero.makeNoZero ps #[t] #[.int .i64 n] =
      (do
        let .slice elem ← underlying t | stuck "bytealg.MakeNoZero: slice type expected"
        if (n : Int) < 0 || (n : Int) > 2 ^ 48 then runtimePanic (.error "makeslice: len out of range")
        let cap ← choose (.appendCap (n : Int).toNat 0 elem)
        askRoom cap
        let bytes ← choose (.extern "internal/bytealg.MakeNoZero.bytes" 0)
        let a ← newRow elem (Extern.BytealgMakeNoZero.digits cap bytes #[])
        pure (.slice (some a) (n : Int).toNat cap)) := rfl
  refine ⟨Extern.BytealgMakeNoZero.digits (grownCap w n 0 e) ((Question.extern "internal/bytealg.MakeNoZero.bytes" 0).cut (w.tape (w.drawn + 1) (.extern "internal/bytealg.MakeNoZero.bytes" 0))) #[], ?_, ?_, digits_one _ _ _ (fun v hv => by simp at hv)⟩
  · show (Extern.BytealgMakeNoZero.makeNoZero ps #[t] #[.int .i64 n]).run P w = _
    rw [hdef]
    have h1 : ¬ (n : Int) < 0 := by omega
    have h2 : ¬ (281474976710656 : Int) < (n : Int) := by omega
    simp [run_underlying ht, h1, h2, Question.forced, newRow, Lib.size_digits, grownCap]
  · rw [Lib.size_digits]
    simpa using grownCap_ge w n 0 e

theorem find_of_typed {fn : Func} {n : String} (hn : fn.name = n) {e : Array TypeId → Array TypeId → Array Value → Sem Value} (h1 : Extern.allGenericRows.lookup n = none) (h2 : Extern.allTypedRows.lookup n = some e) : Extern.find fn = some (e fn.params fn.resultTypes) := by
  unfold Extern.find
  simp only [hn, h1, h2]
  rfl

/-- What 'newA' makes, the model's entry makes. -/
theorem newA_sound {fn : Func} {f : Nat} (hf : P.funcs[f]? = some fn) (hname : (fn.name == "runtime.NumGoroutine") = false) (hb : fn.body.isNone = true) {args : List AV} {n : New} (hs : newA P fn args = some n) {vs : List Value} (hv : F2 (VR E ρ) args vs) :
    ∃ (co : Obj) (size : Nat) (v : Value), (callFunc f ⟨vs⟩).run P w = .ok (.value v) (w.drew.drew.alloc co) ∧ (∀ ρ : Rho, ObjR E ρ n.obj ⟨w.heap.size, 0, size⟩ co) ∧ (∀ (ρ : Rho) (b : Nat), ρ b = some ⟨w.heap.size, 0, size⟩ → VR E ρ (n.val b) v) := by
  unfold newA at hs
  split at hs
  · rename_i ho
    split at hs
    · rename_i hn
      split at hs
      · rename_i k t hres
        split at hs
        · rename_i e ht
          cases hk : Nat.ble k 1000000 <;> rw [hk] at hs <;> simp only [cond_true, cond_false, reduceCtorEq, Option.some.injEq] at hs
          subst hs
          have hk' : k ≤ 1000000 := by simpa [Nat.ble_eq] using hk
          obtain ⟨v, rfl, hvv⟩ := F2.left_one hv
          obtain rfl := hvv
          obtain ⟨cs, g1, g2, g3⟩ := makeNoZero_run (P := P) (w := w) fn.params ht (n := k) (by omega)
          have hres' : fn.resultTypes = #[t] := by apply Array.ext'; simpa using hres
          have hrun := run_callFunc_extern (w := w) (args := #[.int .i64 (Int.ofNat k)]) hf hname hb (findNext_of hn ho (by kernel_rfl) (by kernel_rfl)) (find_of_typed hn (e := Extern.BytealgMakeNoZero.makeNoZero) (by kernel_rfl) (by kernel_rfl))
          rw [hres', g1] at hrun
          refine ⟨.cells cs e, cs.size, _, hrun, fun ρ => ?_, fun ρ b hb' => ?_⟩
          · refine ⟨cs, e, 0, 0, rfl, rfl, by simpa using g2, (fun hh => by cases hh), fun i hi => ?_, fun _ => ⟨rfl, Nat.le_refl _, fun p h1 h2 => by omega⟩⟩
            have hlt : 0 + i < cs.size := by omega
            refine ⟨cs[0 + i], by simp, ?_⟩
            show VR E ρ (rowGet .leaf i) _
            have : rowGet .leaf i = AV.junk := by
              unfold rowGet T.get
              generalize wayOf i = p
              cases p <;> rfl
            rw [this]
            exact g3 _ (Array.getElem_mem hlt)
          · exact ⟨⟨w.heap.size, 0, cs.size⟩, cs.size, hb', rfl, by simp, g2⟩
        · cases hs
      · cases hs
    · cases hs
  · cases hs

end Go.AM

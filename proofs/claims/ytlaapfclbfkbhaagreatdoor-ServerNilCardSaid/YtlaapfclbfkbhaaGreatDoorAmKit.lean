/- Closed facts of a row, of its card and of its tie, out of parts that are small enough for the kernel. -/
import Derived.Test.YtlaapfclbfkbhaaGreatDoorAmSim
import Derived.ChangeArms
import Derived.WideShapes
import Derived.Carry
import Derived.LaidByTextLater
import Derived.Lay
import Derived.JoinedOf
import Derived.KernelRfl
import GoSem.ClaimFn
import GoSem.ClaimGoes
/- A law of one struct argument of plain cells, run by the abstract machine: what the arguments and the laid variables look like to it. -/
namespace Go.AM

theorem cell_one {P : Program} {w : World} {r : Reach} {base : Nat} {u : TypeId} {v : Value} (h : Cell.okWide P w r base u v) : v.oneCell' = true := by
  unfold Cell.okWide at h
  cases v <;> first | rfl | (exfalso; revert h; cases P.underlying u with
    | none => simp [Cell.ok]
    | some d => cases d <;> simp_all [Cell.ok])

/-- A struct argument: its cells, one value each. -/
theorem struct_cells {P : Program} {w : World} {r : Reach} {base : Nat} {t : TypeId} {v : Value} {fs : Array Field} (ht : P.underlying t = some (.struct fs)) (h : Value.okWide P w r base t v) :
    ∃ cs : List Value, v = .agg ⟨cs⟩ ∧ cs.length = P.cellsOf t ∧ ∀ x ∈ cs, x.oneCell' = true := by
  simp only [Value.okWide, ht] at h
  obtain ⟨⟨cs⟩, h1, h2, ts, _, _, h3⟩ := h
  refine ⟨cs, h1, h2, fun x hx => ?_⟩
  obtain ⟨i, hi⟩ := List.mem_iff_getElem?.1 hx
  obtain ⟨u, _, hu⟩ := h3 i x (by simpa using hi)
  exact cell_one hu

/-- An argument of one cell. -/
theorem plain_cell {P : Program} {w : World} {r : Reach} {base : Nat} {t : TypeId} {v : Value} (ht : ∀ d, P.underlying t = some d → isAggD d = false) (h : Value.okWide P w r base t v) : v.oneCell' = true := by
  unfold Value.okWide at h
  split at h
  · rename_i hd; exact absurd (ht _ hd) (by simp [isAggD])
  · rename_i hd; exact absurd (ht _ hd) (by simp [isAggD])
  · exact cell_one h

/-- The values behind 'ext': a list, and a plain one behind its end. -/
def extV (l : List Value) (i : Nat) : Value := (l[i]?).getD (.bool true)

theorem extV_one {l : List Value} (h : ∀ x ∈ l, x.oneCell' = true) (i : Nat) : (extV l i).oneCell' = true := by
  unfold extV
  cases e : l[i]? with
  | none => rfl
  | some x => exact h x (List.mem_of_getElem? e)

theorem extV_at {l : List Value} {i : Nat} {x : Value} (h : l[i]? = some x) : extV l i = x := by
  unfold extV; rw [h]; rfl

/-- 'n' places from 'k' on. -/
def exts : Nat → Nat → AV
  | _, 0 => .nil
  | k, n + 1 => .cons (.ext k) (exts (k + 1) n)

theorem exts_CL {ρ : Rho} : ∀ (cs a b : List Value), CL (extV (a ++ cs ++ b)) ρ (exts a.length cs.length) cs
  | [], a, b => by simp [exts, CL, isChain, VR]
  | c :: cs, a, b => by
    have ih := exts_CL (ρ := ρ) cs (a ++ [c]) b
    have e : a ++ [c] ++ cs ++ b = a ++ (c :: cs) ++ b := by simp
    rw [e] at ih
    simp only [List.length_append, List.length_cons, List.length_nil, Nat.zero_add] at ih
    refine CL.cons_iff.2 ⟨c, cs, rfl, ?_, ih⟩
    show c = extV _ _
    exact (extV_at (by simp)).symm

theorem VR_struct {ρ : Rho} (cs a b : List Value) : VR (extV (a ++ cs ++ b)) ρ (.agg (exts a.length cs.length)) (.agg ⟨cs⟩) :=
  ⟨cs, rfl, (exts_CL (ρ := ρ) cs a b).1, (exts_CL (ρ := ρ) cs a b).2⟩

/-- What a laid variable of interface type holds: one cell. -/
theorem iface_cell {H : Type} {enc : TypeId × Value → H} {P : Program} {w : World} {base : Nat} {sp : Nat → Bool} {held : Bool} {fuel : Nat} {t : TypeId} {ms : Array (String × TypeId)} {cs : List Value} {x : DataW H × List MemPlace}
    (ht : P.underlying t = some (.interface ms)) (h : DataW.trod enc P w base sp held fuel t cs = some x) : ∃ c, cs = [c] ∧ c.oneCell' = true := by
  cases fuel with
  | zero => simp [DataW.trod] at h
  | succ n =>
    match cs, h with
    | [], h => simp [DataW.trod, ht] at h
    | [c], h => cases c <;> first | exact ⟨_, rfl, rfl⟩ | simp [DataW.trod, ht] at h
    | _ :: _ :: _, h => simp [DataW.trod, ht] at h

/-- A variable's cells, as the world holds them. -/
theorem var_heap {P : Program} {w : World} {n : String} {g : Nat} {cs : Array Value} (hg : P.globalNamed n = some g) (h : w.var? P n = some cs) : ∃ e fr, w.heap[g]? = some (.cells cs e fr) := by
  unfold World.var? at h
  rw [hg] at h
  simp only [Option.bind_some] at h
  split at h
  · rename_i c e fr hh
    simp only [Option.some.injEq] at h
    subst h
    exact ⟨e, fr, hh⟩
  · cases h

/-- A laid variable of one cell, that is only read. -/
theorem roOne {E : Nat → Value} {g i t e : Nat} {fr : Nat × Nat} {c : Value} (h : E i = c) : ObjR E (fun _ => none) (.cells (rowSet .leaf 0 (.ext i)) 1 t false 0 false true) ⟨g, 0, (#[c] : Array Value).size⟩ (.cells #[c] e fr) := by
  refine ⟨#[c], e, fr.1, fr.2, rfl, rfl, Nat.le_refl _, fun _ => ⟨rfl, rfl⟩, fun j hj => ?_, fun hh => by cases hh⟩
  have : j = 0 := by omega
  subst this
  exact ⟨c, rfl, h.symm⟩

/-- 'post' of a law of one argument that it does not turn: the result is 'true', the argument reads as it did. -/
theorem post_true {H : Type} {enc : TypeId × Value → H} {P : Program} {f : Func} {s : ChangeSpec} {W W' : World} {t tb : TypeId} {v : Value} {d : DataW H} {p : List MemPlace}
    (hs : s.vars = []) (hfn : (s.fn H [d]).results = [.lit (.bool true)] ∧ (s.fn H [d]).args = [d] ∧ (s.fn H [d]).vars = []) (hp : f.params = #[t]) (hr : f.resultTypes = #[tb]) (hb : P.underlying tb = some .bool)
    (hl : laidOutB P = true) (hrd : P.readableRec t = true) (hrow : t < P.types.size)
    (hW : DataW.Whole enc P f.params.toList s.vars false W [v] [d] [] p) (h0 : DataW.Trod enc P W 0 (fun _ => true) true t v d p) (hbel : RowKit.Below W.heap.size W W') :
    s.post enc P f false true false false W #[v] (.bool true) W' := by
  have hlt : ∀ x ∈ p, x.block < W.heap.size := fun x hx => by simpa using hW.lt x hx
  obtain ⟨k1, k2, k3⟩ := hfn
  refine ⟨[d], [], p, [], p, [], hW, ?_, ?_, ?_, ?_, fun h => by cases h⟩
  · rw [hr]
    simp only [List.append_nil, k1]
    refine ⟨[], [], ⟨1, ?_⟩, rfl, rfl⟩
    simp [DataW.trod, hb, Value.cells]
  · rw [hp]
    simp only [List.append_nil, k2]
    exact ⟨p, [], RowKit.Below.trod hl hrd hrow h0 hbel hlt, rfl, by simp⟩
  · simp only [List.append_nil, k3, hs]
    rfl
  · exact hbel.frame _
end Go.AM
/- The tie of a row's listed variables out of facts that are each small enough for the kernel. -/
namespace Go.AM

/-- Rows of cells at blocks that differ: no place twice. -/
def rowsAt (l : List (Nat × Nat)) : List MemPlace := l.flatMap fun x => MemPlace.row ⟨x.1, 0, none⟩ x.2

theorem rowsAt_mem {l : List (Nat × Nat)} {p : MemPlace} (h : p ∈ rowsAt l) : p.block ∈ l.map (·.1) := by
  unfold rowsAt at h
  obtain ⟨x, hx, hp⟩ := List.mem_flatMap.1 h
  obtain ⟨i, _, rfl⟩ := MemPlace.mem_row.1 hp
  exact List.mem_map.2 ⟨x, hx, by simp [MemPlace.block]⟩

theorem rowsAt_nodup : ∀ {l : List (Nat × Nat)}, (l.map (·.1)).Nodup → (rowsAt l).Nodup
  | [], _ => List.nodup_nil
  | x :: l, h => by
    simp only [List.map_cons, List.nodup_cons] at h
    show (MemPlace.row ⟨x.1, 0, none⟩ x.2 ++ rowsAt l).Nodup
    refine List.nodup_append.2 ⟨rowP_nodup _ _, rowsAt_nodup h.2, fun a ha b hb e => ?_⟩
    subst e
    obtain ⟨i, _, rfl⟩ := MemPlace.mem_row.1 ha
    have := rowsAt_mem hb
    exact h.1 (by simpa [MemPlace.block] using this)

theorem tie_by_rows {P : Program} {laid : List (String × DataW Unit)} {kinds : List LaidKind} {tests : Bool} (g n fuel : Nat) (rows : List (Nat × Nat))
    (hw : P.worded (varsWordLater tests) = true) (hw' : P.worded (varsWordLater !tests) = false) (hroot : P.worded rootWordLater = true) (hk : laid.map (fun x => P.kindOfLater x.1) = kinds.map some)
    (hg : P.funcNamed "gosem.cut.vars" = some g)
    (hn : varsNamedLaterB P g laid = true)
    (hd : ∀ os tape, varsDone P n g os tape = true)
    (h1 : ∀ os tape, (DataW.laidRun P (varsWorld P n g os tape).memory fuel (laid.map (·.1))).map (·.1) = some laid)
    (h2 : ∀ os tape, (DataW.laidRun P (varsWorld P n g os tape).memory fuel (laid.map (·.1))).map (·.2) = some (rowsAt rows))
    (h3 : ∀ os tape, laidRowsB P (varsWorld P n g os tape).memory (rowsAt rows) = true)
    (h4 : (rows.map (·.1)).Nodup)
    (hp : (laid.all fun x => x.2.handleName?.isNone) = true) :
    P.laidByTextLater laid kinds tests :=
  Program.laidByTextLater_of_run g n fuel hw hw' hroot hk hg hn hd h1 (fun os tape => by
    have e := h2 os tape
    cases hx : DataW.laidRun P (varsWorld P n g os tape).memory fuel (laid.map (·.1)) with
    | none => rw [hx] at e; cases e
    | some x =>
      rw [hx] at e
      simp only [Option.map_some, Option.some.injEq] at e
      simp only [Option.map_some, e, h3 os tape, Bool.and_true, Option.some.injEq]
      exact decide_eq_true (rowsAt_nodup h4)) hp
end Go.AM
/- 'laidOutB' and 'joinedFacts' out of parts that are each small enough for the kernel. -/
namespace Go.AM

theorem laidOut_of {P : Program} {n : Nat} (hn : P.types.size = n) (h : ∀ t, t < n → rowFine P t = true)
    (hg : P.globals.all (fun g => decide (g.type < P.types.size)) = true) (hf : P.funcs.all (fun f => f.params.all fun t => decide (t < P.types.size)) = true) : laidOutB P = true := by
  unfold laidOutB
  rw [hg, hf, Bool.and_true, Bool.and_true]
  exact List.all_eq_true.2 fun t ht => h t (by have := List.mem_range.1 ht; omega)

theorem fine_of {P : Program} {a k : Nat} (h : (List.range' a k).all (rowFine P) = true) {t : Nat} (h1 : a ≤ t) (h2 : t < a + k) : rowFine P t = true :=
  List.all_eq_true.1 h t (List.mem_range'_1.2 ⟨h1, h2⟩)

/-- The params' types, a part of the functions at a time. -/
def paramsFit (n : Nat) (l : List Func) : Bool := l.all fun f => f.params.all fun t => Nat.blt t n

theorem params_of {P : Program} {n : Nat} (hn : P.types.size = n) {l : List Func} (hl : P.funcs.toList = l) (h : paramsFit n l = true) : P.funcs.all (fun f => f.params.all fun t => decide (t < P.types.size)) = true := by
  rw [Array.all_eq_true_iff_forall_mem]
  intro f hf
  have := List.all_eq_true.1 h f (by rw [← hl]; simpa using hf)
  rw [Array.all_eq_true_iff_forall_mem] at this ⊢
  intro t ht
  have h1 := this t ht
  rw [hn]
  exact decide_eq_true (Nat.le_of_ble_eq_true h1)

/-- The integer kinds of the parameters, as the row's cell lists them. -/
def kindsOf (P : Program) (fn : Func) : List (Option IntKind) := fn.params.toList.map fun t => match P.underlying t with | some (.int k) => some k | _ => none

theorem joinedFacts_of {P : Program} {f : FuncId} {fn : Func} {s : ChangeSpec} {c : OpenClaim}
    (k1 : c.wf (OpenSpec.ofChange s) = true) (k2 : laidOutB P = true) (k3 : mapsRowed P = true)
    (k4 : fn.params.all (P.readableRec ·) = true) (k5 : namedTie P c.named s.vars = true)
    (k6 : (c.stops == []) = true) (k7 : (P.stops == []) = true) (k8 : (c.knobs == []) = true) (k9 : (P.stopKnobs == []) = true)
    (k10 : (c.inPlace == P.inPlace f) = true) (k11 : (c.unfollowed == P.unfollowed f) = true) (k12 : (c.recurses == P.recurses f) = true) (k13 : (c.named == P.varsNamed f) = true)
    (k14 : ((c.maps == (fn.params.toList ++ s.plain.varTypes P).any (P.mapsRec ·)) && (c.ifaces == (fn.params.toList ++ s.plain.varTypes P).any (P.ifacesRec ·)) && (c.mapsOut == P.mapsAmong fn.resultTypes.toList) &&
      (c.loops == (fn.params.toList ++ s.plain.varTypes P).any (P.loopsFrom ·)) && (c.wideKeys == (fn.params.toList ++ s.plain.varTypes P ++ fn.resultTypes.toList).any (P.wideKeysFrom ·)) &&
      s.vars.all (P.varReadable ·) && fn.resultTypes.all (fun t => P.readableRec t && decide (t < P.types.size)) && (c.ifacesOut == fn.resultTypes.toList.any (P.ifacesRec ·)) && (c.loopsOut == fn.resultTypes.toList.any (P.loopsFrom ·))) = true)
    (k15 : (c.plainKeys == P.plainKeys) = true) (k16 : c.shortTexts.isNone = true) (k17 : P.stopsHeard = true) (k18 : P.mayEnter = true) (k19 : (c.lifted == P.liftsFinal) = true)
    (k20 : (P.make == some c.make) = true) (k21 : (c.kinds == (if c.domain.isEmpty then [] else kindsOf P fn)) = true) (k22 : (c.pinned == c.pinnedBy) = true)
    (k23 : ((c.veiled == (fn.params.toList ++ s.plain.varTypes P ++ fn.resultTypes.toList).any (P.veiledRec ·)) && c.veiledFits P fn.params.toList (fn.params.toList ++ s.plain.varTypes P ++ fn.resultTypes.toList)) = true) :
    joinedFacts P f fn s c = true := by
  simp only [Bool.and_eq_true] at k14 k23
  obtain ⟨⟨⟨⟨⟨⟨⟨⟨m1, m2⟩, m3⟩, m4⟩, m5⟩, m6⟩, m7⟩, m8⟩, m9⟩ := k14
  obtain ⟨v1, v2⟩ := k23
  unfold joinedFacts
  simp only [Bool.and_eq_true]
  exact ⟨⟨⟨⟨⟨⟨⟨⟨⟨⟨⟨⟨⟨⟨⟨⟨⟨⟨⟨⟨⟨⟨⟨⟨⟨⟨⟨⟨⟨⟨⟨k1, k2⟩, k3⟩, k4⟩, k5⟩, k6⟩, k7⟩, k8⟩, k9⟩, k10⟩, k11⟩, k12⟩, k13⟩, m1⟩, m2⟩, m3⟩, m4⟩, m5⟩, m6⟩, m7⟩, m8⟩, m9⟩, k15⟩, k16⟩, k17⟩, k18⟩, k19⟩, k20⟩, k21⟩, k22⟩, v1⟩, v2⟩
end Go.AM
/- The functions that a function leads to, out of a run that keeps the ones met as the bits of a number. -/
namespace Go.AM

/-- What a function leads to. -/
def lead (P : Program) (f : FuncId) : List FuncId := (P.funcs[f]?).elim [] P.leadsTo

theorem via_nil (P : Program) (n : Nat) (seen : List FuncId) : P.closureVia n [] seen = seen.reverse := by
  cases n <;> rfl
theorem via_cons (P : Program) (n : Nat) (f : FuncId) (todo seen : List FuncId) :
    P.closureVia (n + 1) (f :: todo) seen = if seen.contains f then P.closureVia n todo seen else P.closureVia n (lead P f ++ todo) (f :: seen) := rfl

/-! ### The fuel is enough -/
def rest (P : Program) (seen : List FuncId) : List Nat → Nat
  | [] => 0
  | g :: l => (if seen.contains g then 0 else (lead P g).length) + rest P seen l

theorem rest_cons_notin {P : Program} {seen : List FuncId} {f : FuncId} : ∀ {l : List Nat}, f ∉ l → rest P (f :: seen) l = rest P seen l
  | [], _ => rfl
  | g :: l, h => by
    simp only [List.mem_cons, not_or] at h
    simp only [rest, List.contains_cons]
    rw [rest_cons_notin h.2]
    have : (g == f) = false := by simpa using fun e => h.1 e.symm
    rw [this, Bool.false_or]

theorem rest_cons_in {P : Program} {seen : List FuncId} {f : FuncId} (hs : seen.contains f = false) : ∀ {l : List Nat}, l.Nodup → f ∈ l → rest P (f :: seen) l + (lead P f).length = rest P seen l
  | g :: l, hd, h => by
    simp only [List.nodup_cons] at hd
    rcases List.mem_cons.1 h with e | e
    · subst e
      simp only [rest, List.contains_cons, beq_self_eq_true, Bool.true_or, if_true, hs, Bool.false_eq_true, if_false]
      rw [rest_cons_notin hd.1]; omega
    · have hne : (g == f) = false := by
        have : g ≠ f := fun e' => hd.1 (e' ▸ e)
        simpa using this
      have ih := rest_cons_in (P := P) hs hd.2 e
      simp only [rest, List.contains_cons, hne, Bool.false_or]
      omega

theorem via_more (P : Program) : ∀ (n : Nat) (todo seen : List FuncId), todo.length + rest P seen (List.range P.funcs.size) ≤ n → ∀ k, P.closureVia (n + k) todo seen = P.closureVia n todo seen
  | n, [], seen, _, k => by rw [via_nil, via_nil]
  | 0, _ :: _, _, h, _ => by simp at h
  | n + 1, f :: todo, seen, h, k => by
    rw [show n + 1 + k = (n + k) + 1 from by omega, via_cons, via_cons]
    simp only [List.length_cons] at h
    by_cases hs : seen.contains f = true
    · rw [if_pos hs, if_pos hs]
      exact via_more P n todo seen (by omega) k
    · rw [if_neg hs, if_neg hs]
      refine via_more P n _ _ ?_ k
      have hs' : seen.contains f = false := by simpa using hs
      rw [List.length_append]
      by_cases hf : f < P.funcs.size
      · have := rest_cons_in (P := P) hs' List.nodup_range (List.mem_range.2 hf)
        omega
      · have e1 : rest P (f :: seen) (List.range P.funcs.size) = rest P seen (List.range P.funcs.size) := rest_cons_notin (fun hh => hf (List.mem_range.1 hh))
        have e2 : lead P f = [] := by
          unfold lead
          rw [Array.getElem?_eq_none (Nat.le_of_not_lt hf)]; rfl
        rw [e1, e2]
        simp only [List.length_nil]
        omega

theorem rest_nil (P : Program) : ∀ (l : List Nat), rest P [] l = (l.map fun g => (lead P g).length).sum
  | [] => rfl
  | g :: l => by simp [rest, rest_nil P l]

theorem rest_le (P : Program) : rest P [] (List.range P.funcs.size) ≤ (P.funcs.toList.map fun g => (P.leadsTo g).length + 1).sum := by
  rw [rest_nil]
  have e : (List.range P.funcs.size).map (fun g => (lead P g).length) = P.funcs.toList.map fun g => (P.leadsTo g).length := by
    apply List.ext_getElem
    · simp
    · intro i h1 h2
      simp at h1 h2
      simp [lead, Array.getElem?_eq_getElem h2]
  rw [e]
  generalize P.funcs.toList = l
  induction l with
  | nil => exact Nat.le_refl _
  | cons g l ih => simp only [List.map_cons, List.sum_cons]; omega

/-! ### The run by bits -/
def viaB (P : Program) : Nat → List FuncId → List FuncId → Nat → Option (List FuncId)
  | 0, [], seen, _ => some seen.reverse
  | 0, _ :: _, _, _ => none
  | _ + 1, [], seen, _ => some seen.reverse
  | n + 1, f :: todo, seen, b =>
    bif Nat.testBit b f then viaB P n todo seen b
    else viaB P n (lead P f ++ todo) (f :: seen) (Nat.lor b (2 ^ f))

theorem viaB_sound {P : Program} : ∀ (n : Nat) (todo seen : List FuncId) (b : Nat) (L : List FuncId), (∀ f, seen.contains f = Nat.testBit b f) → viaB P n todo seen b = some L → ∀ k, P.closureVia (n + k) todo seen = L
  | 0, [], seen, b, L, _, h, k => by
    simp only [viaB, Option.some.injEq] at h
    rw [via_nil, h]
  | 0, _ :: _, _, _, _, _, h, _ => by simp [viaB] at h
  | n + 1, [], seen, b, L, _, h, k => by
    simp only [viaB, Option.some.injEq] at h
    rw [via_nil, h]
  | n + 1, f :: todo, seen, b, L, hb, h, k => by
    rw [show n + 1 + k = (n + k) + 1 from by omega, via_cons]
    unfold viaB at h
    cases hs : Nat.testBit b f with
    | true =>
      rw [hs, cond_true] at h
      rw [if_pos (by rw [hb f]; exact hs)]
      exact viaB_sound n todo seen b L hb h k
    | false =>
      rw [hs, cond_false] at h
      rw [if_neg (by rw [hb f, hs]; decide)]
      refine viaB_sound n _ _ _ L (fun g => ?_) h k
      rw [List.contains_cons, hb g]
      show _ = Nat.testBit (b ||| 2 ^ f) g
      rw [Nat.testBit_or, Nat.testBit_two_pow]
      have e : (g == f) = decide (f = g) := by
        by_cases hgf : g = f
        · subst hgf; simp
        · have : f ≠ g := fun e => hgf e.symm
          simp [hgf, this]
      rw [e, Bool.or_comm]

theorem closure_of {P : Program} {f : FuncId} {L : List FuncId} (n : Nat) (h : viaB P n [f] [] 0 = some L) : P.closure f = L := by
  unfold Program.closure
  rw [← via_more P _ [f] [] (by have := rest_le P; simp only [List.length_cons, List.length_nil]; omega) n, Nat.add_comm]
  exact viaB_sound n [f] [] 0 L (fun g => by simp) h _

/-! ### What the row's cells say, out of the list, a part of it at a time -/
def bodyless (P : Program) (g : Nat) : Option String := (P.funcs[g]?).bind fun fn => if fn.ours || fn.body.isNone || fn.name == "runtime.NumGoroutine" then some fn.name else none
def readOf (P : Program) (g : Nat) : Option String := (P.funcs[g]?).bind fun fn => if fn.body.isNone then entryReads.lookup fn.name else none
def globsOf (P : Program) (g : Nat) : List Nat := ((P.funcs[g]?).bind (·.body)).elim [] Code.globalsNamed

theorem inPlace_of {P : Program} {f : FuncId} {L : List FuncId} {ps : List String} (h : P.closure f = L) (hp : L.filterMap (bodyless P) = ps) : P.inPlace f = ps := by
  unfold Program.inPlace; rw [h]; exact hp
theorem unfollowed_of {P : Program} {f : FuncId} {L : List FuncId} (h : P.closure f = L) (hu : (L.any fun g => (P.funcs[g]?).any fun fn => match fn.body with | some c => c.unfollowed | none => entryCalls fn) = true) : P.unfollowed f = true := by
  unfold Program.unfollowed; rw [h]; exact hu
theorem recurses_of {P : Program} {f : FuncId} (h : P.unfollowed f = true) : P.recurses f = true := by
  unfold Program.recurses; rw [h, Bool.true_or]
def namesOf (P : Program) (gs : List Nat) (rs : List String) : List String := (gs.eraseDups.filterMap (fun g => (P.globals[g]?).map (·.name)) ++ rs).eraseDups
theorem varsNamed_of {P : Program} {f : FuncId} {L : List FuncId} {gs : List Nat} {rs : List String} (h : P.closure f = L) (hg : L.flatMap (globsOf P) = gs) (hr : L.filterMap (readOf P) = rs) :
    P.varsNamed f = namesOf P gs rs := by
  unfold namesOf
  unfold Program.varsNamed; rw [h, ← hg, ← hr]; rfl

theorem flatMap_two {f : Nat → List Nat} {a b x y : List Nat} (h : a.flatMap f = x) (k : b.flatMap f = y) : (a ++ b).flatMap f = x ++ y := by
  rw [List.flatMap_append, h, k]
theorem filterMap_two {f : Nat → Option String} {a b : List Nat} {x y : List String} (h : a.filterMap f = x) (k : b.filterMap f = y) : (a ++ b).filterMap f = x ++ y := by
  rw [List.filterMap_append, h, k]
end Go.AM
/- A row whose program starts no goroutine, the functions looked at a part at a time. -/
namespace Go.AM
def noneGoes (P : Program) (a k : Nat) : Bool := ((P.funcs.toList.drop a).take k).all fun fn => !fn.goes

theorem noneGoes_two {P : Program} {a k m : Nat} (h : noneGoes P a k = true) (h' : noneGoes P (a + k) m = true) : noneGoes P a (k + m) = true := by
  unfold noneGoes at *
  rw [List.take_add, List.all_append, h, List.drop_drop, h']
  rfl

theorem goesBy_of {P : Program} {c : OpenClaim} {f : FuncId} {k : Nat} (hst : c.start = .entering) (hf : P.funcNamed c.func = some f) (hk : P.funcs.size = k) (h : noneGoes P 0 k = true) : false = c.goesBy P := by
  have hall : ∀ fn ∈ P.funcs.toList, fn.goes = false := by
    intro fn hfn
    unfold noneGoes at h
    rw [List.drop_zero, List.take_of_length_le (by simp [hk])] at h
    have := List.all_eq_true.1 h fn hfn
    simpa using this
  have h1 : P.funcs.any Func.goes = false := by
    rw [← Array.any_toList, List.any_eq_false]
    intro x hx; rw [hall x hx]; decide
  have h2 : ((P.closure f).any fun g => (P.funcs[g]?).any Func.goes) = false := by
    rw [List.any_eq_false]
    intro g _
    cases hg : P.funcs[g]? with
    | none => simp
    | some fn =>
      have : fn ∈ P.funcs.toList := by
        have := Array.mem_of_getElem? hg
        simpa using this
      simp [hall fn this]
  unfold OpenClaim.goesBy Program.goesAt Program.goesFrom
  rw [hf, hst]
  simp only [Option.any_some, Program.goes, h1, h2, Bool.and_false, Bool.or_false]
end Go.AM

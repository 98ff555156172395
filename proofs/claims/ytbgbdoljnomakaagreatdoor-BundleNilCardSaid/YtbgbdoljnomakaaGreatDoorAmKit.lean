/- Closed facts of a row, of its card and of its tie, out of parts that are small enough for the kernel; the summary of a search in a string. -/
import Derived.Test.YtbgbdoljnomakaaGreatDoorAmChain
import Derived.Handed
import Derived.ChangeArms
import Derived.WideShapes
import Derived.Carry
import Derived.LaidByTextLater
import Derived.Lay
import Derived.JoinedOf
import Derived.KernelRfl
import GoSem.ClaimFn
import GoSem.ClaimGoes
import Derived.Shelf.Strings.Search2
/- A law of one struct argument of plain cells, run by the abstract machine: what the arguments and the laid variables look like to it. -/
namespace Go.AM

theorem cell_one {P : Program} {w : World} {r : Reach} {base : Nat} {u : TypeId} {v : Value} (h : Cell.okWide P w r base u v) : v.oneCell' = true := by
  unfold Cell.okWide at h
  cases v <;> first | rfl | (exfalso; revert h; cases P.underlying u with
    | none => simp [Cell.ok]
    | some d => cases d <;> simp_all [Cell.ok])

/-- A struct argument: its cells, one value each. -/
theorem struct_cells {P : Program} {w : World} {r : Reach} {base : Nat} {t : TypeId} {v : Value} {fs : Array Field} (ht : P.underlying t = some (.struct fs)) (h : Value.okWide P w r base t v) :
    ∃ cs : List Value, v = .agg ⟨cs⟩ ∧ cs.length = P.cellsOf t ∧ ∀ x ∈ cs, x.oneCell' = true := by
  simp only [Value.okWide, ht] at h
  obtain ⟨⟨cs⟩, h1, h2, ts, _, _, h3⟩ := h
  refine ⟨cs, h1, h2, fun x hx => ?_⟩
  obtain ⟨i, hi⟩ := List.mem_iff_getElem?.1 hx
  obtain ⟨u, _, hu⟩ := h3 i x (by simpa using hi)
  exact cell_one hu

/-- An argument of one cell. -/
theorem plain_cell {P : Program} {w : World} {r : Reach} {base : Nat} {t : TypeId} {v : Value} (ht : ∀ d, P.underlying t = some d → isAggD d = false) (h : Value.okWide P w r base t v) : v.oneCell' = true := by
  unfold Value.okWide at h
  split at h
  · rename_i hd; exact absurd (ht _ hd) (by simp [isAggD])
  · rename_i hd; exact absurd (ht _ hd) (by simp [isAggD])
  · exact cell_one h

/-- The values behind 'ext': a list, and a plain one behind its end. -/
def extV (l : List Value) (i : Nat) : Value := (l[i]?).getD (.bool true)

theorem extV_one {l : List Value} (h : ∀ x ∈ l, x.oneCell' = true) (i : Nat) : (extV l i).oneCell' = true := by
  unfold extV
  cases e : l[i]? with
  | none => rfl
  | some x => exact h x (List.mem_of_getElem? e)

theorem extV_at {l : List Value} {i : Nat} {x : Value} (h : l[i]? = some x) : extV l i = x := by
  unfold extV; rw [h]; rfl

/-- 'n' places from 'k' on. -/
def exts : Nat → Nat → AV
  | _, 0 => .nil
  | k, n + 1 => .cons (.ext k) (exts (k + 1) n)

theorem exts_CL {ρ : Rho} : ∀ (cs a b : List Value), CL (extV (a ++ cs ++ b)) ρ (exts a.length cs.length) cs
  | [], a, b => by simp [exts, CL, isChain, VR]
  | c :: cs, a, b => by
    have ih := exts_CL (ρ := ρ) cs (a ++ [c]) b
    have e : a ++ [c] ++ cs ++ b = a ++ (c :: cs) ++ b := by simp
    rw [e] at ih
    simp only [List.length_append, List.length_cons, List.length_nil, Nat.zero_add] at ih
    refine CL.cons_iff.2 ⟨c, cs, rfl, ?_, ih⟩
    show c = extV _ _
    exact (extV_at (by simp)).symm

theorem VR_struct {ρ : Rho} (cs a b : List Value) : VR (extV (a ++ cs ++ b)) ρ (.agg (exts a.length cs.length)) (.agg ⟨cs⟩) :=
  ⟨cs, rfl, (exts_CL (ρ := ρ) cs a b).1, (exts_CL (ρ := ρ) cs a b).2⟩

/-- What a laid variable of interface type holds: one cell. -/
theorem iface_cell {H : Type} {enc : TypeId × Value → H} {P : Program} {w : World} {base : Nat} {sp : Nat → Bool} {held : Bool} {fuel : Nat} {t : TypeId} {ms : Array (String × TypeId)} {cs : List Value} {x : DataW H × List MemPlace}
    (ht : P.underlying t = some (.interface ms)) (h : DataW.trod enc P w base sp held fuel t cs = some x) : ∃ c, cs = [c] ∧ c.oneCell' = true := by
  cases fuel with
  | zero => simp [DataW.trod] at h
  | succ n =>
    match cs, h with
    | [], h => simp [DataW.trod, ht] at h
    | [c], h => cases c <;> first | exact ⟨_, rfl, rfl⟩ | simp [DataW.trod, ht] at h
    | _ :: _ :: _, h => simp [DataW.trod, ht] at h

/-- A variable's cells, as the world holds them. -/
theorem var_heap {P : Program} {w : World} {n : String} {g : Nat} {cs : Array Value} (hg : P.globalNamed n = some g) (h : w.var? P n = some cs) : ∃ e fr, w.heap[g]? = some (.cells cs e fr) := by
  unfold World.var? at h
  rw [hg] at h
  simp only [Option.bind_some] at h
  split at h
  · rename_i c e fr hh
    simp only [Option.some.injEq] at h
    subst h
    exact ⟨e, fr, hh⟩
  · cases h

/-- A laid variable of one cell, that is only read. -/
theorem roOne {E : Nat → Value} {g i t e : Nat} {fr : Nat × Nat} {c : Value} (h : E i = c) : ObjR E (fun _ => none) (.cells (rowSet .leaf 0 (.ext i)) 1 t false 0 false true) ⟨g, 0, (#[c] : Array Value).size⟩ (.cells #[c] e fr) := by
  refine ⟨#[c], e, fr.1, fr.2, rfl, rfl, Nat.le_refl _, fun _ => ⟨rfl, rfl⟩, fun j hj => ?_, fun hh => by cases hh⟩
  have : j = 0 := by omega
  subst this
  exact ⟨c, rfl, h.symm⟩

/-- 'post' of a law of one argument that it does not turn: the result is 'true', the argument reads as it did. -/
theorem post_true {H : Type} {enc : TypeId × Value → H} {P : Program} {f : Func} {s : ChangeSpec} {W W' : World} {t tb : TypeId} {v : Value} {d : DataW H} {p : List MemPlace}
    (hs : s.vars = []) (hfn : (s.fn H [d]).results = [.lit (.bool true)] ∧ (s.fn H [d]).args = [d] ∧ (s.fn H [d]).vars = []) (hp : f.params = #[t]) (hr : f.resultTypes = #[tb]) (hb : P.underlying tb = some .bool)
    (hl : laidOutB P = true) (hrd : P.readableRec t = true) (hrow : t < P.types.size)
    (hW : DataW.Whole enc P f.params.toList s.vars false W [v] [d] [] p) (h0 : DataW.Trod enc P W 0 (fun _ => true) true t v d p) (hbel : RowKit.Below W.heap.size W W') :
    s.post enc P f false true false false W #[v] (.bool true) W' := by
  have hlt : ∀ x ∈ p, x.block < W.heap.size := fun x hx => by simpa using hW.lt x hx
  obtain ⟨k1, k2, k3⟩ := hfn
  refine ⟨[d], [], p, [], p, [], hW, ?_, ?_, ?_, ?_, fun h => by cases h⟩
  · rw [hr]
    simp only [List.append_nil, k1]
    refine ⟨[], [], ⟨1, ?_⟩, rfl, rfl⟩
    simp [DataW.trod, hb, Value.cells]
  · rw [hp]
    simp only [List.append_nil, k2]
    exact ⟨p, [], RowKit.Below.trod hl hrd hrow h0 hbel hlt, rfl, by simp⟩
  · simp only [List.append_nil, k3, hs]
    rfl
  · exact hbel.frame _

/-- The row's contract, with the shape of the world besides: every variable of the program holds a value of its type. -/
theorem handed_shaped {H : Type} {enc : TypeId × Value → H} {a : Assume} {C : Checked} {os : Os} {f : FuncId} {fn : Func} {s : ChangeSpec} {conds : List PathCond} {apart fresh handsOn again : Bool} {X : World → Array Value → Prop}
    (hX : ∀ (w w' : World) (args : Array Value), w.heap = w'.heap → X w args → X w' args)
    (own : ownKnob C.prog.godebug = none) (started : os.Started) (noInit : C.prog.inits.idxOf? f = none) (hfn : C.prog.funcs[f]? = some fn)
    (witness : ∃ (w : World) (tape : Tape) (i : Input), w.os = os ∧ (w.forCall tape i).Shaped C.prog ∧ i.vars = [] ∧ Input.okWide C.prog (w.forCall tape i) .any w.heap.size f i ∧
      ((s.pre enc C.prog fn conds apart (w.forCall tape i).memory i.args ∧ X (w.forCall tape i).memory i.args) ∧ sizedMet enc C.prog fn (OpenSpec.ofChange s) apart (w.forCall tape i).memory i.args) ∧ a.holds C.prog (lone (Frame.enter C.prog f i.args .normal) [] (w.forCall tape i)))
    (contract : ∀ (W : World) (base : Nat) (args : Array Value) (ds gs : List (DataW H)) (before : List MemPlace), W.ShapedOpen C.prog →
      (∀ (j : Nat) t v, fn.params[j]? = some t → args[j]? = some v → Value.okWide C.prog W .any base t v) →
      DataW.Whole enc C.prog fn.params.toList s.vars apart W args.toList ds gs before →
      conds.all (PathCond.test C.prog ⟨fn.params.toList, ds, s.plain.varTypes C.prog, gs⟩) = true →
      (DataW.weightsEach C.prog (fn.params.toList ++ s.plain.varTypes C.prog) (ds ++ gs)).all (· ≤ reachBytes) = true → X W args →
      a.holds C.prog (lone (Frame.enter C.prog f args .normal) [] W) →
      Calls C.prog f args W fun e W' => ∃ v, e = .returned v ∧ s.post enc C.prog fn apart fresh handsOn again W args v W') :
    ReturnsInHanded a C os f .any (fun w args => (s.pre enc C.prog fn conds apart w args ∧ X w args) ∧ sizedMet enc C.prog fn (OpenSpec.ofChange s) apart w args) (s.post enc C.prog fn apart fresh handsOn again) := by
  refine returnsInHanded_of_calls own started noInit witness ?_
  intro w tape i _ hsh _ hok hpre hholds
  obtain ⟨_, _, _, fn', hfn', _, _, _, _, hval⟩ := hok
  have e : fn' = fn := Option.some.inj (hfn'.symm.trans hfn)
  subst e
  obtain ⟨⟨⟨ds, gs, before, hw, hc⟩, hx⟩, hz⟩ := hpre
  have hw' := DataW.Whole.of_heap (w' := w.forCall tape i) (by rfl) hw
  refine (contract (w.forCall tape i) w.heap.size i.args ds gs before hsh hval hw' hc (hz.weights hw) (hX _ _ _ (by rfl) hx) hholds).mono fun e W' ⟨v, he, hp⟩ => ?_
  subst he
  exact ChangeSpec.post_blind hp

/-- A variable of an integer type holds some number. -/
theorem int_of_shape {P : Program} {w : World} {g : Nat} {t : TypeId} {zero : Array Value} {k : IntKind} (h : w.ShapedOpen P) (hg : g < P.globals.size)
    (h0 : ((begin P (fun _ _ => 0) default).world.heap[g]?).bind Obj.row? = some (zero, t)) (hz : zero.size = 1)
    (hb : P.buildable t = true) (hc : P.cellTypes P.depth t = some [t]) (hu : P.underlying t = some (.int k)) : ∃ m, w.heap[g]? = some (.cells #[.int k m] t) := by
  obtain ⟨cs, hh, hs, hr⟩ := h.1 g zero t hg h0
  obtain ⟨ts, hts, _, hall⟩ := hr hb
  rw [hc] at hts
  cases hts
  have h1 : 0 < cs.size := by omega
  obtain ⟨u, hu', hok⟩ := hall 0 cs[0] (by simp [h1])
  have : u = t := by simpa using hu'.symm
  subst this
  have hc1 : cs = #[cs[0]] := by
    apply Array.ext
    · simp; omega
    · intro i h2 h3
      have : i = 0 := by simp at h3; omega
      subst this; rfl
  unfold Cell.ok at hok
  rw [hu] at hok
  cases hv : cs[0] <;> rw [hv] at hok <;> simp at hok
  rename_i k' n
  obtain ⟨rfl, _⟩ := hok
  refine ⟨n, ?_⟩
  rw [hh, hc1, hv]

theorem ofList_inj : ∀ {a b : List AV}, AV.ofList a = AV.ofList b → a = b
  | [], [], _ => rfl
  | [], _ :: _, h => by cases h
  | _ :: _, [], h => by cases h
  | x :: a, y :: b, h => by
    simp only [AV.ofList, AV.cons.injEq] at h
    rw [h.1, ofList_inj h.2]

/-- The answers known in a law are true where each of its parts is. -/
theorem lawSm_ok {E : Nat → Value} {G : Nat} {w0 : World} {P : Program} {aw sh : Nat} {b : Bool} {q : List AV} {rest : Program → Heap → Nat → List AV → Option AV}
    (haw : ∀ {ρ : Rho} {h : Heap} {w : World}, HeapR E G w0 ρ h w → Calls P aw #[] w (fun e w' => e = .returned (.bool true) ∧ RowKit.Below w.heap.size w w'))
    (hsh : ∀ {ρ : Rho} {h : Heap} {w : World} {vals : List Value}, HeapR E G w0 ρ h w → F2 (VR E ρ) q vals → Calls P sh ⟨vals⟩ w (fun e w' => e = .returned (.bool b) ∧ RowKit.Below w.heap.size w w'))
    (hrest : @SumOk ⟨rest⟩ E G w0 P) : @SumOk ⟨lawSm aw sh b q rest⟩ E G w0 P := by
  intro ρ h w f args v vals hr hs hv
  have hs' : lawSm aw sh b q rest P h f args = some v := hs
  unfold lawSm at hs'
  cases h1 : Nat.beq f aw with
  | true =>
    rw [h1] at hs'
    simp only [cond_true] at hs'
    have hf : f = aw := by simpa [Nat.beq_eq] using h1
    subst hf
    split at hs'
    · simp only [Option.some.injEq] at hs'
      subst hs'
      cases hv
      exact (haw hr).mono fun e w' he => ⟨_, he.1, fun _ => rfl, he.2⟩
    · cases hs'
  | false =>
    rw [h1] at hs'
    simp only [cond_false] at hs'
    cases h2 : Nat.beq f sh with
    | true =>
      rw [h2] at hs'
      simp only [cond_true] at hs'
      have hf : f = sh := by simpa [Nat.beq_eq] using h2
      subst hf
      cases h3 : avEq (AV.ofList args) (AV.ofList q) <;> rw [h3] at hs' <;> simp only [cond_true, cond_false, reduceCtorEq, Option.some.injEq] at hs'
      subst hs'
      have := ofList_inj (avEq_eq h3)
      subst this
      exact (hsh hr hv).mono fun e w' he => ⟨_, he.1, fun _ => rfl, he.2⟩
    | false =>
      rw [h2] at hs'
      simp only [cond_false] at hs'
      exact hrest hr hs' hv
end Go.AM
/- The tie of a row's listed variables out of facts that are each small enough for the kernel. -/
namespace Go.AM

/-- Rows of cells at blocks that differ: no place twice. -/
def rowsAt (l : List (Nat × Nat)) : List MemPlace := l.flatMap fun x => MemPlace.row ⟨x.1, 0, none⟩ x.2

theorem rowsAt_mem {l : List (Nat × Nat)} {p : MemPlace} (h : p ∈ rowsAt l) : p.block ∈ l.map (·.1) := by
  unfold rowsAt at h
  obtain ⟨x, hx, hp⟩ := List.mem_flatMap.1 h
  obtain ⟨i, _, rfl⟩ := MemPlace.mem_row.1 hp
  exact List.mem_map.2 ⟨x, hx, by simp [MemPlace.block]⟩

theorem rowsAt_nodup : ∀ {l : List (Nat × Nat)}, (l.map (·.1)).Nodup → (rowsAt l).Nodup
  | [], _ => List.nodup_nil
  | x :: l, h => by
    simp only [List.map_cons, List.nodup_cons] at h
    show (MemPlace.row ⟨x.1, 0, none⟩ x.2 ++ rowsAt l).Nodup
    refine List.nodup_append.2 ⟨rowP_nodup _ _, rowsAt_nodup h.2, fun a ha b hb e => ?_⟩
    subst e
    obtain ⟨i, _, rfl⟩ := MemPlace.mem_row.1 ha
    have := rowsAt_mem hb
    exact h.1 (by simpa [MemPlace.block] using this)

theorem tie_by_rows {P : Program} {laid : List (String × DataW Unit)} {kinds : List LaidKind} {tests : Bool} (g n fuel : Nat) (rows : List (Nat × Nat))
    (hw : P.worded (varsWordLater tests) = true) (hw' : P.worded (varsWordLater !tests) = false) (hroot : P.worded rootWordLater = true) (hk : laid.map (fun x => P.kindOfLater x.1) = kinds.map some)
    (hg : P.funcNamed "gosem.cut.vars" = some g)
    (hn : varsNamedLaterB P g laid = true)
    (hd : ∀ os tape, varsDone P n g os tape = true)
    (h1 : ∀ os tape, (DataW.laidRun P (varsWorld P n g os tape).memory fuel (laid.map (·.1))).map (·.1) = some laid)
    (h2 : ∀ os tape, (DataW.laidRun P (varsWorld P n g os tape).memory fuel (laid.map (·.1))).map (·.2) = some (rowsAt rows))
    (h3 : ∀ os tape, laidRowsB P (varsWorld P n g os tape).memory (rowsAt rows) = true)
    (h4 : (rows.map (·.1)).Nodup)
    (hp : (laid.all fun x => x.2.handleName?.isNone) = true) :
    P.laidByTextLater laid kinds tests :=
  Program.laidByTextLater_of_run g n fuel hw hw' hroot hk hg hn hd h1 (fun os tape => by
    have e := h2 os tape
    cases hx : DataW.laidRun P (varsWorld P n g os tape).memory fuel (laid.map (·.1)) with
    | none => rw [hx] at e; cases e
    | some x =>
      rw [hx] at e
      simp only [Option.map_some, Option.some.injEq] at e
      simp only [Option.map_some, e, h3 os tape, Bool.and_true, Option.some.injEq]
      exact decide_eq_true (rowsAt_nodup h4)) hp
end Go.AM
/- 'laidOutB' and 'joinedFacts' out of parts that are each small enough for the kernel. -/
namespace Go.AM

theorem laidOut_of {P : Program} {n : Nat} (hn : P.types.size = n) (h : ∀ t, t < n → rowFine P t = true)
    (hg : P.globals.all (fun g => decide (g.type < P.types.size)) = true) (hf : P.funcs.all (fun f => f.params.all fun t => decide (t < P.types.size)) = true) : laidOutB P = true := by
  unfold laidOutB
  rw [hg, hf, Bool.and_true, Bool.and_true]
  exact List.all_eq_true.2 fun t ht => h t (by have := List.mem_range.1 ht; omega)

theorem fine_of {P : Program} {a k : Nat} (h : (List.range' a k).all (rowFine P) = true) {t : Nat} (h1 : a ≤ t) (h2 : t < a + k) : rowFine P t = true :=
  List.all_eq_true.1 h t (List.mem_range'_1.2 ⟨h1, h2⟩)

/-- The params' types, a part of the functions at a time. -/
def paramsFit (n : Nat) (l : List Func) : Bool := l.all fun f => f.params.all fun t => Nat.blt t n

theorem params_of {P : Program} {n : Nat} (hn : P.types.size = n) {l : List Func} (hl : P.funcs.toList = l) (h : paramsFit n l = true) : P.funcs.all (fun f => f.params.all fun t => decide (t < P.types.size)) = true := by
  rw [Array.all_eq_true_iff_forall_mem]
  intro f hf
  have := List.all_eq_true.1 h f (by rw [← hl]; simpa using hf)
  rw [Array.all_eq_true_iff_forall_mem] at this ⊢
  intro t ht
  have h1 := this t ht
  rw [hn]
  exact decide_eq_true (Nat.le_of_ble_eq_true h1)

/-- The integer kinds of the parameters, as the row's cell lists them. -/
def kindsOf (P : Program) (fn : Func) : List (Option IntKind) := fn.params.toList.map fun t => match P.underlying t with | some (.int k) => some k | _ => none

theorem joinedFacts_of {P : Program} {f : FuncId} {fn : Func} {s : ChangeSpec} {c : OpenClaim}
    (k1 : c.wf (OpenSpec.ofChange s) = true) (k2 : laidOutB P = true) (k3 : mapsRowed P = true)
    (k4 : fn.params.all (P.readableRec ·) = true) (k5 : namedTie P c.named s.vars = true)
    (k6 : (c.stops == []) = true) (k7 : (P.stops == []) = true) (k8 : (c.knobs == []) = true) (k9 : (P.stopKnobs == []) = true)
    (k10 : (c.inPlace == P.inPlace f) = true) (k11 : (c.unfollowed == P.unfollowed f) = true) (k12 : (c.recurses == P.recurses f) = true) (k13 : (c.named == P.varsNamed f) = true)
    (k14 : ((c.maps == (fn.params.toList ++ s.plain.varTypes P).any (P.mapsRec ·)) && (c.ifaces == (fn.params.toList ++ s.plain.varTypes P).any (P.ifacesRec ·)) && (c.mapsOut == P.mapsAmong fn.resultTypes.toList) &&
      (c.loops == (fn.params.toList ++ s.plain.varTypes P).any (P.loopsFrom ·)) && (c.wideKeys == (fn.params.toList ++ s.plain.varTypes P ++ fn.resultTypes.toList).any (P.wideKeysFrom ·)) &&
      s.vars.all (P.varReadable ·) && fn.resultTypes.all (fun t => P.readableRec t && decide (t < P.types.size)) && (c.ifacesOut == fn.resultTypes.toList.any (P.ifacesRec ·)) && (c.loopsOut == fn.resultTypes.toList.any (P.loopsFrom ·))) = true)
    (k15 : (c.plainKeys == P.plainKeys) = true) (k16 : c.shortTexts.isNone = true) (k17 : P.stopsHeard = true) (k18 : P.mayEnter = true) (k19 : (c.lifted == P.liftsFinal) = true)
    (k20 : (P.make == some c.make) = true) (k21 : (c.kinds == (if c.domain.isEmpty then [] else kindsOf P fn)) = true) (k22 : (c.pinned == c.pinnedBy) = true)
    (k23 : ((c.veiled == (fn.params.toList ++ s.plain.varTypes P ++ fn.resultTypes.toList).any (P.veiledRec ·)) && c.veiledFits P fn.params.toList (fn.params.toList ++ s.plain.varTypes P ++ fn.resultTypes.toList)) = true) :
    joinedFacts P f fn s c = true := by
  simp only [Bool.and_eq_true] at k14 k23
  obtain ⟨⟨⟨⟨⟨⟨⟨⟨m1, m2⟩, m3⟩, m4⟩, m5⟩, m6⟩, m7⟩, m8⟩, m9⟩ := k14
  obtain ⟨v1, v2⟩ := k23
  unfold joinedFacts
  simp only [Bool.and_eq_true]
  exact ⟨⟨⟨⟨⟨⟨⟨⟨⟨⟨⟨⟨⟨⟨⟨⟨⟨⟨⟨⟨⟨⟨⟨⟨⟨⟨⟨⟨⟨⟨⟨k1, k2⟩, k3⟩, k4⟩, k5⟩, k6⟩, k7⟩, k8⟩, k9⟩, k10⟩, k11⟩, k12⟩, k13⟩, m1⟩, m2⟩, m3⟩, m4⟩, m5⟩, m6⟩, m7⟩, m8⟩, m9⟩, k15⟩, k16⟩, k17⟩, k18⟩, k19⟩, k20⟩, k21⟩, k22⟩, v1⟩, v2⟩
end Go.AM
/- The functions that a function leads to, out of a run that keeps the ones met as the bits of a number. -/
namespace Go.AM

/-- What a function leads to. -/
def lead (P : Program) (f : FuncId) : List FuncId := (P.funcs[f]?).elim [] P.leadsTo

theorem via_nil (P : Program) (n : Nat) (seen : List FuncId) : P.closureVia n [] seen = seen.reverse := by
  cases n <;> rfl
theorem via_cons (P : Program) (n : Nat) (f : FuncId) (todo seen : List FuncId) :
    P.closureVia (n + 1) (f :: todo) seen = if seen.contains f then P.closureVia n todo seen else P.closureVia n (lead P f ++ todo) (f :: seen) := rfl

/-! ### The fuel is enough -/
def rest (P : Program) (seen : List FuncId) : List Nat → Nat
  | [] => 0
  | g :: l => (if seen.contains g then 0 else (lead P g).length) + rest P seen l

theorem rest_cons_notin {P : Program} {seen : List FuncId} {f : FuncId} : ∀ {l : List Nat}, f ∉ l → rest P (f :: seen) l = rest P seen l
  | [], _ => rfl
  | g :: l, h => by
    simp only [List.mem_cons, not_or] at h
    simp only [rest, List.contains_cons]
    rw [rest_cons_notin h.2]
    have : (g == f) = false := by simpa using fun e => h.1 e.symm
    rw [this, Bool.false_or]

theorem rest_cons_in {P : Program} {seen : List FuncId} {f : FuncId} (hs : seen.contains f = false) : ∀ {l : List Nat}, l.Nodup → f ∈ l → rest P (f :: seen) l + (lead P f).length = rest P seen l
  | g :: l, hd, h => by
    simp only [List.nodup_cons] at hd
    rcases List.mem_cons.1 h with e | e
    · subst e
      simp only [rest, List.contains_cons, beq_self_eq_true, Bool.true_or, if_true, hs, Bool.false_eq_true, if_false]
      rw [rest_cons_notin hd.1]; omega
    · have hne : (g == f) = false := by
        have : g ≠ f := fun e' => hd.1 (e' ▸ e)
        simpa using this
      have ih := rest_cons_in (P := P) hs hd.2 e
      simp only [rest, List.contains_cons, hne, Bool.false_or]
      omega

theorem via_more (P : Program) : ∀ (n : Nat) (todo seen : List FuncId), todo.length + rest P seen (List.range P.funcs.size) ≤ n → ∀ k, P.closureVia (n + k) todo seen = P.closureVia n todo seen
  | n, [], seen, _, k => by rw [via_nil, via_nil]
  | 0, _ :: _, _, h, _ => by simp at h
  | n + 1, f :: todo, seen, h, k => by
    rw [show n + 1 + k = (n + k) + 1 from by omega, via_cons, via_cons]
    simp only [List.length_cons] at h
    by_cases hs : seen.contains f = true
    · rw [if_pos hs, if_pos hs]
      exact via_more P n todo seen (by omega) k
    · rw [if_neg hs, if_neg hs]
      refine via_more P n _ _ ?_ k
      have hs' : seen.contains f = false := by simpa using hs
      rw [List.length_append]
      by_cases hf : f < P.funcs.size
      · have := rest_cons_in (P := P) hs' List.nodup_range (List.mem_range.2 hf)
        omega
      · have e1 : rest P (f :: seen) (List.range P.funcs.size) = rest P seen (List.range P.funcs.size) := rest_cons_notin (fun hh => hf (List.mem_range.1 hh))
        have e2 : lead P f = [] := by
          unfold lead
          rw [Array.getElem?_eq_none (Nat.le_of_not_lt hf)]; rfl
        rw [e1, e2]
        simp only [List.length_nil]
        omega

theorem rest_nil (P : Program) : ∀ (l : List Nat), rest P [] l = (l.map fun g => (lead P g).length).sum
  | [] => rfl
  | g :: l => by simp [rest, rest_nil P l]

theorem rest_le (P : Program) : rest P [] (List.range P.funcs.size) ≤ (P.funcs.toList.map fun g => (P.leadsTo g).length + 1).sum := by
  rw [rest_nil]
  have e : (List.range P.funcs.size).map (fun g => (lead P g).length) = P.funcs.toList.map fun g => (P.leadsTo g).length := by
    apply List.ext_getElem
    · simp
    · intro i h1 h2
      simp at h1 h2
      simp [lead, Array.getElem?_eq_getElem h2]
  rw [e]
  generalize P.funcs.toList = l
  induction l with
  | nil => exact Nat.le_refl _
  | cons g l ih => simp only [List.map_cons, List.sum_cons]; omega

/-! ### The run by bits -/
def viaB (P : Program) : Nat → List FuncId → List FuncId → Nat → Option (List FuncId)
  | 0, [], seen, _ => some seen.reverse
  | 0, _ :: _, _, _ => none
  | _ + 1, [], seen, _ => some seen.reverse
  | n + 1, f :: todo, seen, b =>
    bif Nat.testBit b f then viaB P n todo seen b
    else viaB P n (lead P f ++ todo) (f :: seen) (Nat.lor b (2 ^ f))

theorem viaB_sound {P : Program} : ∀ (n : Nat) (todo seen : List FuncId) (b : Nat) (L : List FuncId), (∀ f, seen.contains f = Nat.testBit b f) → viaB P n todo seen b = some L → ∀ k, P.closureVia (n + k) todo seen = L
  | 0, [], seen, b, L, _, h, k => by
    simp only [viaB, Option.some.injEq] at h
    rw [via_nil, h]
  | 0, _ :: _, _, _, _, _, h, _ => by simp [viaB] at h
  | n + 1, [], seen, b, L, _, h, k => by
    simp only [viaB, Option.some.injEq] at h
    rw [via_nil, h]
  | n + 1, f :: todo, seen, b, L, hb, h, k => by
    rw [show n + 1 + k = (n + k) + 1 from by omega, via_cons]
    unfold viaB at h
    cases hs : Nat.testBit b f with
    | true =>
      rw [hs, cond_true] at h
      rw [if_pos (by rw [hb f]; exact hs)]
      exact viaB_sound n todo seen b L hb h k
    | false =>
      rw [hs, cond_false] at h
      rw [if_neg (by rw [hb f, hs]; decide)]
      refine viaB_sound n _ _ _ L (fun g => ?_) h k
      rw [List.contains_cons, hb g]
      show _ = Nat.testBit (b ||| 2 ^ f) g
      rw [Nat.testBit_or, Nat.testBit_two_pow]
      have e : (g == f) = decide (f = g) := by
        by_cases hgf : g = f
        · subst hgf; simp
        · have : f ≠ g := fun e => hgf e.symm
          simp [hgf, this]
      rw [e, Bool.or_comm]

theorem closure_of {P : Program} {f : FuncId} {L : List FuncId} (n : Nat) (h : viaB P n [f] [] 0 = some L) : P.closure f = L := by
  unfold Program.closure
  rw [← via_more P _ [f] [] (by have := rest_le P; simp only [List.length_cons, List.length_nil]; omega) n, Nat.add_comm]
  exact viaB_sound n [f] [] 0 L (fun g => by simp) h _

/-! ### What the row's cells say, out of the list, a part of it at a time -/
def bodyless (P : Program) (g : Nat) : Option String := (P.funcs[g]?).bind fun fn => if fn.ours || fn.body.isNone || fn.name == "runtime.NumGoroutine" then some fn.name else none
def readOf (P : Program) (g : Nat) : Option String := (P.funcs[g]?).bind fun fn => if fn.body.isNone then entryReads.lookup fn.name else none
def globsOf (P : Program) (g : Nat) : List Nat := ((P.funcs[g]?).bind (·.body)).elim [] Code.globalsNamed

theorem inPlace_of {P : Program} {f : FuncId} {L : List FuncId} {ps : List String} (h : P.closure f = L) (hp : L.filterMap (bodyless P) = ps) : P.inPlace f = ps := by
  unfold Program.inPlace; rw [h]; exact hp
theorem unfollowed_of {P : Program} {f : FuncId} {L : List FuncId} (h : P.closure f = L) (hu : (L.any fun g => (P.funcs[g]?).any fun fn => match fn.body with | some c => c.unfollowed | none => entryCalls fn) = true) : P.unfollowed f = true := by
  unfold Program.unfollowed; rw [h]; exact hu
theorem recurses_of {P : Program} {f : FuncId} (h : P.unfollowed f = true) : P.recurses f = true := by
  unfold Program.recurses; rw [h, Bool.true_or]
def namesOf (P : Program) (gs : List Nat) (rs : List String) : List String := (gs.eraseDups.filterMap (fun g => (P.globals[g]?).map (·.name)) ++ rs).eraseDups
theorem varsNamed_of {P : Program} {f : FuncId} {L : List FuncId} {gs : List Nat} {rs : List String} (h : P.closure f = L) (hg : L.flatMap (globsOf P) = gs) (hr : L.filterMap (readOf P) = rs) :
    P.varsNamed f = namesOf P gs rs := by
  unfold namesOf
  unfold Program.varsNamed; rw [h, ← hg, ← hr]; rfl

theorem flatMap_two {f : Nat → List Nat} {a b x y : List Nat} (h : a.flatMap f = x) (k : b.flatMap f = y) : (a ++ b).flatMap f = x ++ y := by
  rw [List.flatMap_append, h, k]
theorem filterMap_two {f : Nat → Option String} {a b : List Nat} {x y : List String} (h : a.filterMap f = x) (k : b.filterMap f = y) : (a ++ b).filterMap f = x ++ y := by
  rw [List.filterMap_append, h, k]
end Go.AM
/- A row whose program starts no goroutine, the functions looked at a part at a time. -/
namespace Go.AM
def noneGoes (P : Program) (a k : Nat) : Bool := ((P.funcs.toList.drop a).take k).all fun fn => !fn.goes

theorem noneGoes_two {P : Program} {a k m : Nat} (h : noneGoes P a k = true) (h' : noneGoes P (a + k) m = true) : noneGoes P a (k + m) = true := by
  unfold noneGoes at *
  rw [List.take_add, List.all_append, h, List.drop_drop, h']
  rfl

theorem goesBy_of {P : Program} {c : OpenClaim} {f : FuncId} {k : Nat} (hst : c.start = .entering) (hf : P.funcNamed c.func = some f) (hk : P.funcs.size = k) (h : noneGoes P 0 k = true) : false = c.goesBy P := by
  have hall : ∀ fn ∈ P.funcs.toList, fn.goes = false := by
    intro fn hfn
    unfold noneGoes at h
    rw [List.drop_zero, List.take_of_length_le (by simp [hk])] at h
    have := List.all_eq_true.1 h fn hfn
    simpa using this
  have h1 : P.funcs.any Func.goes = false := by
    rw [← Array.any_toList, List.any_eq_false]
    intro x hx; rw [hall x hx]; decide
  have h2 : ((P.closure f).any fun g => (P.funcs[g]?).any Func.goes) = false := by
    rw [List.any_eq_false]
    intro g _
    cases hg : P.funcs[g]? with
    | none => simp
    | some fn =>
      have : fn ∈ P.funcs.toList := by
        have := Array.mem_of_getElem? hg
        simpa using this
      simp [hall fn this]
  unfold OpenClaim.goesBy Program.goesAt Program.goesFrom
  rw [hf, hst]
  simp only [Option.any_some, Program.goes, h1, h2, Bool.and_false, Bool.or_false]
end Go.AM
/- The summary of 'internal/stringslite.Index' is true, whatever the longest needle of the entry is. -/
namespace Go.AM
open Go.RowKit (Below)
open Go.Proofs Go.Shelf

/-- Does the needle stand at place i? -/
theorem occ_iff {len n lm m i : Nat} (hm : m < 256 ^ lm) (hi : i + lm ≤ len) : Lib.occAt (strBytes len n) (strBytes lm m) i = Nat.beq (n / 256 ^ (len - lm - i) % 256 ^ lm) m := by
  unfold Lib.occAt
  have e1 : ((strBytes len n).drop i).take lm = strBytes lm (n / 256 ^ (len - (i + lm)) % 256 ^ lm) := by
    have := strBytes_sub len n i (i + lm) (by omega) hi
    rw [show i + lm - i = lm from by omega] at this
    rw [← this, List.take_drop]
  rw [show len - lm - i = len - (i + lm) from by omega]
  rw [Bool.eq_iff_iff, List.isPrefixOf_iff_prefix, Nat.beq_eq, List.prefix_iff_eq_take, strBytes_length, e1]
  constructor
  · intro h
    exact (strBytes_inj lm _ _ hm (Nat.mod_lt _ (Nat.pow_pos (by decide))) h).symm
  · intro h; rw [h]

theorem findSub_spec {len n lm m : Nat} (hm : m < 256 ^ lm) (hle : lm ≤ len) : ∀ (k i : Nat), i + k = len + 1 - lm →
    match findSub len n lm m k i with
    | some j => i ≤ j ∧ j + lm ≤ len ∧ Lib.occAt (strBytes len n) (strBytes lm m) j = true ∧ ∀ x, i ≤ x → x < j → Lib.occAt (strBytes len n) (strBytes lm m) x = false
    | none => ∀ x, i ≤ x → x + lm ≤ len → Lib.occAt (strBytes len n) (strBytes lm m) x = false
  | 0, i, h => by
    simp only [findSub]
    intro x h1 h2; omega
  | k + 1, i, h => by
    have ho := occ_iff (n := n) hm (show i + lm ≤ len by omega)
    unfold findSub
    cases hb : Nat.beq (n / 256 ^ (len - lm - i) % 256 ^ lm) m with
    | true =>
      simp only [cond_true]
      exact ⟨Nat.le_refl _, by omega, by rw [ho, hb], fun x h1 h2 => by omega⟩
    | false =>
      simp only [cond_false]
      have ih := findSub_spec (n := n) hm hle k (i + 1) (by omega)
      split
      · rename_i j hj
        rw [hj] at ih
        obtain ⟨q1, q2, q3, q4⟩ := ih
        refine ⟨by omega, q2, q3, fun x h1 h2 => ?_⟩
        by_cases hx : x = i
        · subst hx; rw [ho, hb]
        · exact q4 x (by omega) h2
      · rename_i hj
        rw [hj] at ih
        intro x h1 h2
        by_cases hx : x = i
        · subst hx; rw [ho, hb]
        · exact ih x (by omega) h2

theorem index_findSub {len n lm m : Nat} (hm : m < 256 ^ lm) (hle : lm ≤ len) : Lib.index (strBytes len n) (strBytes lm m) = match findSub len n lm m (len + 1 - lm) 0 with | some i => (i : Int) | none => -1 := by
  have hs := findSub_spec (n := n) hm hle (len + 1 - lm) 0 (by omega)
  have hempty : ∀ j, j ≤ len → ¬ j + lm ≤ len → Lib.occAt (strBytes len n) (strBytes lm m) j = false := by
    intro j hj hn
    cases ho : Lib.occAt (strBytes len n) (strBytes lm m) j with
    | false => rfl
    | true =>
      rcases Lib.occAt_room ho with h | h
      · rw [strBytes_length, strBytes_length] at h; omega
      · have := congrArg List.length h
        rw [strBytes_length] at this
        simp at this
        omega
  split
  · rename_i j hj
    rw [hj] at hs
    obtain ⟨_, q2, q3, q4⟩ := hs
    exact Lib.index_first (by rw [strBytes_length]; omega) q3 (fun x hx => q4 x (Nat.zero_le _) hx)
  · rename_i hj
    rw [hj] at hs
    refine Lib.index_none (fun x hx => ?_)
    rw [strBytes_length] at hx
    by_cases hr : x + lm ≤ len
    · exact hs x (Nat.zero_le _) hr
    · exact hempty x hx hr

theorem index_long' {len n lm m : Nat} (hle : len < lm) : Lib.index (strBytes len n) (strBytes lm m) = -1 := by
  refine Lib.index_none (fun x hx => ?_)
  rw [strBytes_length] at hx
  cases ho : Lib.occAt (strBytes len n) (strBytes lm m) x with
  | false => rfl
  | true =>
    rcases Lib.occAt_room ho with h | h
    · rw [strBytes_length, strBytes_length] at h; omega
    · have := congrArg List.length h
      rw [strBytes_length] at this
      simp at this
      omega

/-- The summary of a search: true, whatever 'internal/bytealg.MaxLen' holds. -/
theorem idxSm_ok {E : Nat → Value} {G : Nat} {w0 : World} {P : Program} {ρ' : Ren} (L : Lays.n219 P ρ') {x : Nat} {mx : Int} (hx : E x = .int .i64 mx) (hG : Nat.testBit G (ρ'.g 1) = true)
    {ρ : Rho} {h : Heap} {w : World} {f : Nat} {args : List AV} {v : AV} {vals : List Value} (hr : HeapR E G w0 ρ h w) (hs : idxSm (ρ'.f 219) (ρ'.g 1) x P h f args = some v) (hv : F2 (VR E ρ) args vals) :
    Calls P f ⟨vals⟩ w (fun e w' => ∃ x, e = .returned x ∧ (∀ ρ' : Rho, VR E ρ' v x) ∧ Below w.heap.size w w') := by
  unfold idxSm at hs
  cases hf : Nat.beq f (ρ'.f 219) <;> rw [hf] at hs <;> simp only [cond_true, cond_false, reduceCtorEq] at hs
  have hf' : f = ρ'.f 219 := by simpa [Nat.beq_eq] using hf
  subst hf'
  split at hs
  · rename_i len n lm m
    cases hc : (isExtAt h (ρ'.g 1) x && Nat.ble len 1000000) <;> rw [hc] at hs <;> simp only [cond_true, cond_false, reduceCtorEq] at hs
    simp only [Bool.and_eq_true] at hc
    obtain ⟨hext, hlen⟩ := hc
    have hlen' : len ≤ 1000000 := by simpa [Nat.ble_eq] using hlen
    obtain ⟨va, vb, rfl, ha, hb⟩ := F2.left_two hv
    obtain ⟨hn, rfl⟩ := ha
    obtain ⟨hm, rfl⟩ := hb
    have hcell : w.cell? ⟨ρ'.g 1, 0, none⟩ = some (.int .i64 mx) := by
      obtain ⟨l, e1, e2, e3⟩ := hr.glob _ hG
      obtain ⟨o, g1, g2⟩ := hr.obj _ _ e1
      unfold isExtAt at hext
      split at hext
      · rename_i row k el opn fz mk ro hat
        rw [hat] at g2
        obtain ⟨c, e', lo, hi, rfl, k1, k2, k3, k4, k5⟩ := g2
        split at hext
        · rename_i y hy
          have hxy : x = y := by simpa [Nat.beq_eq] using hext
          obtain ⟨u, q1, q2⟩ := k4 0 (Nat.succ_pos _)
          rw [hy] at q2
          have q2' : u = E y := q2
          rw [e3] at q1
          rw [e2] at g1
          simp only [World.cell?, g1]
          rw [show (0 : Nat) + 0 = 0 from rfl] at q1
          rw [q1, q2', ← hxy, hx]
          rfl
        · cases hext
      · cases hext
    have hsz : (bstr (strBytes len n)).size < 4294967281 := by rw [bstr_size, strBytes_length]; omega
    have hcall := Any.stringslite_Index L (bstr (strBytes len n)) (bstr (strBytes lm m)) mx w hsz hcell
    refine hcall.mono (fun e w' he => ?_)
    obtain ⟨rfl, rfl⟩ := he
    have hd1 : (bstr (strBytes len n)).data.toList = strBytes len n := rfl
    have hd2 : (bstr (strBytes lm m)).data.toList = strBytes lm m := rfl
    refine ⟨_, rfl, fun ρ2 => ?_, Below.refl _ _⟩
    rw [hd1, hd2]
    cases hle : Nat.ble lm len <;> rw [hle] at hs <;> simp only [cond_true, cond_false, Option.some.injEq] at hs
    · have hlt : len < lm := by
        have : ¬ lm ≤ len := by
          intro hh
          have : Nat.ble lm len = true := by simpa [Nat.ble_eq] using hh
          rw [hle] at this; cases this
        omega
      subst hs
      rw [index_long' hlt]; rfl
    · have hle' : lm ≤ len := by simpa [Nat.ble_eq] using hle
      rw [index_findSub hm hle']
      split at hs
      · rename_i i hi
        simp only [Option.some.injEq] at hs; subst hs
        rw [hi, mkInt_eq]; rfl
      · rename_i hi
        simp only [Option.some.injEq] at hs; subst hs
        rw [hi]; rfl
  · cases hs
end Go.AM

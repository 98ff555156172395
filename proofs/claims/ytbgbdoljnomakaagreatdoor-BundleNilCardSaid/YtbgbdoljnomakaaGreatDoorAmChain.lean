/- A run in parts: what nothing leads to is dropped between them; orders in which a map is walked are joined. -/
import Derived.Test.YtbgbdoljnomakaaGreatDoorAmSim
/- A run of the abstract machine in parts: what nothing leads to any more is dropped between two of them. -/
namespace Go.AM
open Go.RowKit (Below)

noncomputable section
def notMake (P : Program) (o : Oper) : Bool :=
  match kindOf P o.op with
  | .make => false
  | _ => true
/-- No region under way in which something may have been made ahead of its turn. -/
def headPlain (P : Program) (f : AFr) : Bool :=
  match f.todo with
  | .dreg d :: _ => d.ops.toList.all (notMake P)
  | _ => true
def plainSt (P : Program) (s : ASt) : Bool := headPlain P s.fr && s.cs.all (headPlain P)

/-- A heap out of its objects. -/
def treeOf : List (Nat × AObj) → T AObj → T AObj
  | [], t => t
  | x :: l, t => treeOf l (T.set .free x.1 t x.2)
def heapOf (l : List (Nat × AObj)) (n : Nat) : Heap := ⟨treeOf l .leaf, n⟩

/-- The state, with the objects named alone. -/
def cutA (keep : List Nat) (s : ASt) : ASt := ⟨s.fr, s.cs, heapOf (keep.map fun b => (b, s.h.at b)) s.h.next⟩
def okCut (P : Program) (keep : List Nat) (s : ASt) : Bool := plainSt P s && keep.all fun b => Nat.blt b LIMIT

theorem treeOf_get (h : Heap) : ∀ (keep : List Nat) (t : T AObj), (∀ b ∈ keep, b < LIMIT) → (∀ b, b < LIMIT → T.get .free t b = h.at b ∨ T.get .free t b = .free) →
    ∀ b, b < LIMIT → T.get .free (treeOf (keep.map fun b => (b, h.at b)) t) b = h.at b ∨ T.get .free (treeOf (keep.map fun b => (b, h.at b)) t) b = .free
  | [], _, _, ht, b, hb => ht b hb
  | k :: keep, t, hk, ht, b, hb => by
    simp only [List.map_cons, treeOf]
    refine treeOf_get h keep _ (fun b hb => hk b (List.mem_cons_of_mem _ hb)) (fun b hb => ?_) b hb
    have := Heap.at_put ⟨t, 0⟩ k (h.at k) b (hk k (List.mem_cons_self ..))
    have e : T.get .free (T.set .free k t (h.at k)) b = if b = k then h.at k else T.get .free t b := this
    rw [e]
    by_cases hbk : b = k
    · subst hbk; rw [if_pos rfl]; exact .inl rfl
    · rw [if_neg hbk]; exact ht b hb

theorem cut_at {keep : List Nat} {s : ASt} (hk : ∀ b ∈ keep, b < LIMIT) {b : Nat} (hb : b < LIMIT) : (cutA keep s).h.at b = s.h.at b ∨ (cutA keep s).h.at b = .free :=
  treeOf_get s.h keep .leaf hk (fun b _ => .inr (by unfold T.get; generalize wayOf b = p; cases p <;> rfl)) b hb
end

section
variable {E : Nat → Value} {G : Nat} {w0 : World} {ρ : Rho} {w : World} {P : Program} {g : Nat}

theorem HeapR.cut {s : ASt} {keep : List Nat} (hk : ∀ b ∈ keep, b < LIMIT) (hr : HeapR E G w0 ρ s.h w) : HeapR E G w0 ρ (cutA keep s).h w := by
  have hat : ∀ {b l}, ρ b = some l → (cutA keep s).h.at b = s.h.at b ∨ (cutA keep s).h.at b = .free := fun e => cut_at hk (hr.lt e)
  have hfree : ∀ {b l}, ρ b = some l → isFree ((cutA keep s).h.at b) = false → (cutA keep s).h.at b = s.h.at b := fun e hf => by
    rcases hat e with h | h
    · exact h
    · rw [h] at hf; cases hf
  refine ⟨fun b l e => ?_, fun b b' l l' e e' f f' hne => ?_, hr.dom, fun b l e h1 h2 => ?_, hr.glob, hr.below, hr.lim⟩
  · obtain ⟨o, h1, h2⟩ := hr.obj b l e
    refine ⟨o, h1, ?_⟩
    rcases hat e with h | h
    · rw [h]; exact h2
    · rw [h]; trivial
  · exact hr.sep b b' l l' e e' (by rw [← hfree e f]; exact f) (by rw [← hfree e' f']; exact f') hne
  · have := hfree e h2
    rw [this] at h1 h2
    exact hr.low b l e h1 h2

theorem DrawR.heap {h h' : Heap} {lo hi : Nat} {gh : Nat → Option Nat} {d : DReg} {env : T AV} {tmps : Array Value} {ls : Array Bool} {l : List Nat} (hp : d.ops.toList.all (notMake P) = true) (hd : DrawR E P g ρ h lo hi gh d env tmps ls l) : DrawR E P g ρ h' lo hi gh d env tmps ls l :=
  { ok := hd.ok, lin := hd.lin, lsz := hd.lsz, sub := hd.sub, closed := hd.closed, dlt := hd.dlt, dclosed := hd.dclosed, todo1 := hd.todo1, todo2 := hd.todo2, todo3 := hd.todo3, keep := hd.keep, in1 := hd.in1, in0 := hd.in0, ghost := hd.ghost, inj := hd.inj,
    light := fun i h1 h2 => by
      obtain ⟨o, ε, v, k1, k2, k3, k4⟩ := hd.light i h1 h2
      refine ⟨o, ε, v, k1, k2, k3, ?_⟩
      rcases k4 with k4 | ⟨w1, vals, w2, k4⟩
      · exact .inl k4
      · refine .inr ⟨w1, vals, w2, ?_⟩
        rcases k4 with k4 | k4 | ⟨hk, _⟩
        · exact .inl k4
        · exact .inr (.inl k4)
        · exfalso
          have hm : o ∈ d.ops.toList := by
            have := Array.mem_of_getElem? k1
            simpa using this
          have := List.all_eq_true.1 hp o hm
          unfold notMake at this
          rw [hk] at this
          cases this }

theorem headPlain_dreg {f : AFr} (h : headPlain P f = true) {d : DReg} {k : List AItem} (e : f.todo = .dreg d :: k) : d.ops.toList.all (notMake P) = true := by
  unfold headPlain at h
  rw [e] at h
  exact h

theorem StackR.cut {h h' : Heap} {N : Nat} {acs : List AFr} {cs : List Frame} (hs : StackR E P g ρ h N acs cs) (hp : acs.all (headPlain P) = true) : StackR E P g ρ h' N acs cs := by
  induction hs with
  | nil N => exact .nil N
  | cons hlo hw _ ih =>
    simp only [List.all_cons, Bool.and_eq_true] at hp
    refine .cons hlo ⟨hw.base, ?_⟩ (ih hp.2)
    rcases hw.run with h1 | ⟨d, k, k', i, m, o, rest, l, gh, ls, h1, h2, h3, h4, h5, h6⟩
    · exact .inl h1
    · exact .inr ⟨d, k, k', i, m, o, rest, l, gh, ls, h1, h2, h3, h4.heap (headPlain_dreg hp.1 h1), h5, h6⟩

theorem StR.cut {base : List Frame} {f : Nat} {s : ASt} {m : Machine} {keep : List Nat} (hc : okCut P keep s = true) (hs : StR E G w0 P g base f s m) : StR E G w0 P g base f (cutA keep s) m := by
  simp only [okCut, plainSt, Bool.and_eq_true] at hc
  obtain ⟨⟨h1, h2⟩, h3⟩ := hc
  have hk : ∀ b ∈ keep, b < LIMIT := fun b hb => by
    have := List.all_eq_true.1 h3 b hb
    simpa [Nat.blt_eq] using this
  obtain ⟨ρ, b, a, todo, cs, w, lo, rfl, hr, hlo, hf, hst, hbot⟩ := hs
  refine ⟨ρ, b, a, todo, cs, w, lo, rfl, hr.cut hk, hlo, ⟨hf.base, ?_⟩, hst.cut h2, hbot⟩
  rcases hf.run with h | ⟨d, k, k', l, gh, ls, q1, q2, q3, q4⟩
  · exact .inl h
  · exact .inr ⟨d, k, k', l, gh, ls, q1, q2, q3, q4.heap (headPlain_dreg h1 q1)⟩
end

/-! ### Dead values and orders forgotten -/
noncomputable section
/-- Values of one cell forgotten. -/
def weakV : AV → AV
  | .nil => .nil
  | .cons h t => .cons (weakV h) (weakV t)
  | .agg l => .agg (weakV l)
  | .tup l => .tup (weakV l)
  | _ => .junk

def weakEnv : List Nat → T AV → T AV
  | [], e => e
  | t :: js, e => weakEnv js (envSet e t (weakV (envGet e t)))

def insN (n : Nat) : List Nat → List Nat
  | [] => [n]
  | x :: l => bif Nat.ble n x then n :: x :: l else x :: insN n l
def sortN : List Nat → List Nat
  | [] => []
  | x :: l => insN x (sortN l)
/-- The entries seen, in their numbers' order; nobody knows the last. -/
def canonN (seen : List Nat) : List Nat := sortN (seen.filter fun n => Nat.blt n BOGUS) ++ [BOGUS]

def normO (o : AObj) : AObj :=
  match o with
  | .mit m since (x :: l) last => .mit m since (canonN (x :: l)) last
  | o => o

def normH (ns : List Nat) (h : Heap) (b : Nat) : AObj := bif ns.any (Nat.beq b) then normO (h.at b) else h.at b

/-- The state with the objects named alone, of the frame's slots 'js' the one-cell values forgotten, of the walks 'ns' the order. -/
def cutW (keep js ns : List Nat) (s : ASt) : ASt := ⟨{ s.fr with env := weakEnv js s.fr.env }, s.cs, heapOf (keep.map fun b => (b, normH ns s.h b)) s.h.next⟩
def headBare (f : AFr) : Bool :=
  match f.todo with
  | .dreg _ :: _ => false
  | _ => true
def okCutW (P : Program) (keep js : List Nat) (s : ASt) : Bool := okCut P keep s && (headBare s.fr && js.all fun t => Nat.blt t LIMIT)
end

theorem insN_mem {n x : Nat} : ∀ {l : List Nat}, x ∈ insN n l ↔ x = n ∨ x ∈ l
  | [] => by simp [insN]
  | y :: l => by
    unfold insN
    cases Nat.ble n y
    · simp only [cond_false, List.mem_cons, insN_mem (l := l)]
      constructor
      · rintro (h | h | h)
        · exact .inr (.inl h)
        · exact .inl h
        · exact .inr (.inr h)
      · rintro (h | h | h)
        · exact .inr (.inl h)
        · exact .inl h
        · exact .inr (.inr h)
    · simp only [cond_true, List.mem_cons]
theorem sortN_mem {x : Nat} : ∀ {l : List Nat}, x ∈ sortN l ↔ x ∈ l
  | [] => by simp [sortN]
  | y :: l => by simp only [sortN, insN_mem, sortN_mem (l := l), List.mem_cons]

theorem SeenR.canon {seen sn : List Nat} (hne : seen ≠ []) (h : SeenR seen sn) : SeenR (canonN seen) sn := by
  refine ⟨fun n hn => ?_, ?_, fun x hx hl => ?_⟩
  · rw [h.1 n hn]
    unfold canonN
    simp only [List.mem_append, sortN_mem, List.mem_filter, List.mem_singleton, Nat.blt_eq]
    constructor
    · intro hm; exact .inl ⟨hm, hn⟩
    · rintro (hm | hm)
      · exact hm.1
      · omega
  · constructor
    · intro hs; exact absurd (h.2.1.1 hs) hne
    · intro hc; unfold canonN at hc; simp at hc
  · unfold canonN at hl
    simp only [List.getLast?_append, List.getLast?_singleton, Option.some_or, Option.some.injEq] at hl
    omega

section
variable {E : Nat → Value} {G : Nat} {w0 : World} {ρ : Rho} {w : World} {P : Program} {g : Nat}

theorem weakV_chain : ∀ (a : AV), isChain (weakV a) = isChain a := by
  intro a
  induction a with
  | nil => rfl
  | cons h t _ ih => exact ih
  | _ => rfl

theorem weakV_VR (hE : ∀ i, (E i).oneCell' = true) : ∀ (a : AV) (v : Value), VR E ρ a v → VR E ρ (weakV a) v := by
  intro a
  induction a with
  | nil => intro v h; exact h
  | cons x t ihx iht =>
    intro v h
    obtain ⟨y, ys, rfl, h1, h2⟩ := h
    exact ⟨y, ys, rfl, ihx _ h1, iht _ h2⟩
  | agg l ih =>
    intro v h
    obtain ⟨xs, rfl, h1, h2⟩ := h
    exact ⟨xs, rfl, by rw [weakV_chain]; exact h1, ih _ h2⟩
  | tup l ih =>
    intro v h
    exact ⟨by rw [weakV_chain]; exact h.1, ih _ h.2⟩
  | _ => intro v h; exact VR.one hE h rfl

theorem weakEnv_EnvR (hE : ∀ i, (E i).oneCell' = true) {tmps : Array Value} : ∀ (js : List Nat) (e : T AV), (∀ t ∈ js, t < LIMIT) → EnvR E ρ e tmps → EnvR E ρ (weakEnv js e) tmps
  | [], _, _, h => h
  | t :: js, e, hl, h => by
    refine weakEnv_EnvR hE js _ (fun u hu => hl u (List.mem_cons_of_mem _ hu)) (fun u => ?_)
    rw [envGet_set _ _ _ _ (hl t (List.mem_cons_self ..))]
    by_cases hu : u = t
    · subst hu; rw [if_pos rfl]; exact weakV_VR hE _ _ (h u)
    · rw [if_neg hu]; exact h u

theorem normO_free (o : AObj) : isFree (normO o) = isFree o ∧ roObj (normO o) = roObj o := by
  unfold normO
  split <;> exact ⟨rfl, rfl⟩

theorem normO_ObjR {a : AObj} {l : Loc} {o : Obj} (h : ObjR E ρ a l o) : ObjR E ρ (normO a) l o := by
  unfold normO
  split
  · obtain ⟨h0, m', sn, h1, hsn, h2⟩ := h
    exact ⟨h0, m', sn, h1, hsn.canon (by simp), h2⟩
  · exact h

theorem normTree_get (f : Nat → AObj) : ∀ (keep : List Nat) (t : T AObj), (∀ b ∈ keep, b < LIMIT) → (∀ b, b < LIMIT → T.get .free t b = f b ∨ T.get .free t b = .free) →
    ∀ b, b < LIMIT → T.get .free (treeOf (keep.map fun b => (b, f b)) t) b = f b ∨ T.get .free (treeOf (keep.map fun b => (b, f b)) t) b = .free
  | [], _, _, ht, b, hb => ht b hb
  | k :: keep, t, hk, ht, b, hb => by
    simp only [List.map_cons, treeOf]
    refine normTree_get f keep _ (fun b hb => hk b (List.mem_cons_of_mem _ hb)) (fun b hb => ?_) b hb
    have := Heap.at_put ⟨t, 0⟩ k (f k) b (hk k (List.mem_cons_self ..))
    have e : T.get .free (T.set .free k t (f k)) b = if b = k then f k else T.get .free t b := this
    rw [e]
    by_cases hbk : b = k
    · subst hbk; rw [if_pos rfl]; exact .inl rfl
    · rw [if_neg hbk]; exact ht b hb

theorem HeapR.cutW {s : ASt} {keep js ns : List Nat} (hk : ∀ b ∈ keep, b < LIMIT) (hr : HeapR E G w0 ρ s.h w) : HeapR E G w0 ρ (cutW keep js ns s).h w := by
  have hat : ∀ {b l}, ρ b = some l → (AM.cutW keep js ns s).h.at b = normH ns s.h b ∨ (AM.cutW keep js ns s).h.at b = .free := fun e =>
    normTree_get (normH ns s.h) keep .leaf hk (fun b _ => .inr (by unfold T.get; generalize wayOf b = p; cases p <;> rfl)) _ (hr.lt e)
  have hn : ∀ b, isFree (normH ns s.h b) = isFree (s.h.at b) ∧ roObj (normH ns s.h b) = roObj (s.h.at b) := fun b => by
    unfold normH
    cases ns.any (Nat.beq b)
    · exact ⟨rfl, rfl⟩
    · exact normO_free _
  have hfree : ∀ {b l}, ρ b = some l → isFree ((AM.cutW keep js ns s).h.at b) = false → (AM.cutW keep js ns s).h.at b = normH ns s.h b := fun e hf => by
    rcases hat e with h | h
    · exact h
    · rw [h] at hf; cases hf
  refine ⟨fun b l e => ?_, fun b b' l l' e e' f f' hne => ?_, hr.dom, fun b l e h1 h2 => ?_, hr.glob, hr.below, hr.lim⟩
  · obtain ⟨o, h1, h2⟩ := hr.obj b l e
    refine ⟨o, h1, ?_⟩
    rcases hat e with h | h
    · rw [h]
      unfold normH
      cases ns.any (Nat.beq b)
      · exact h2
      · exact normO_ObjR h2
    · rw [h]; trivial
  · exact hr.sep b b' l l' e e' (by rw [← (hn b).1, ← hfree e f]; exact f) (by rw [← (hn b').1, ← hfree e' f']; exact f') hne
  · have := hfree e h2
    rw [this] at h1 h2
    exact hr.low b l e (by rw [← (hn b).2]; exact h1) (by rw [← (hn b).1]; exact h2)

theorem StR.cutW {base : List Frame} {f : Nat} {s : ASt} {m : Machine} {keep js ns : List Nat} (hE : ∀ i, (E i).oneCell' = true) (hc : okCutW P keep js s = true) (hs : StR E G w0 P g base f s m) : StR E G w0 P g base f (cutW keep js ns s) m := by
  simp only [okCutW, okCut, plainSt, Bool.and_eq_true] at hc
  obtain ⟨⟨⟨_, h2⟩, h3⟩, hbare, h4⟩ := hc
  have hk : ∀ b ∈ keep, b < LIMIT := fun b hb => by
    have := List.all_eq_true.1 h3 b hb
    simpa [Nat.blt_eq] using this
  have hj : ∀ t ∈ js, t < LIMIT := fun b hb => by
    have := List.all_eq_true.1 h4 b hb
    simpa [Nat.blt_eq] using this
  obtain ⟨ρ, b, a, todo, cs, w, lo, rfl, hr, hlo, hf, hst, hbot⟩ := hs
  refine ⟨ρ, b, a, todo, cs, w, lo, rfl, hr.cutW hk, hlo, ⟨⟨hf.base.fn, hf.base.kind, hf.base.size, hf.base.defers, hf.base.round⟩, ?_⟩, hst.cut h2, ?_⟩
  · rcases hf.run with h | ⟨d, k, k', l, gh, ls, h, _⟩
    · exact .inl ⟨h.1, weakEnv_EnvR hE js _ hj h.2⟩
    · unfold headBare at hbare
      rw [h] at hbare
      cases hbare
  · rw [← hbot]
    show bottomFn { s.fr with env := weakEnv js s.fr.env } s.cs = _
    cases s.cs <;> rfl
end

/-- From the state every run comes to an end whose answer is as 'Q' says. -/
inductive Ends [Summ] (P : Program) (g : Nat) (Q : AV → Prop) : ASt → Prop
  | done {s : ASt} {v : AV} {h : Heap} (n : Nat) (hr : runF P g n s = .done v h) (hq : Q v) : Ends P g Q s
  | next {s t : ASt} (n : Nat) (hr : runF P g n s = .next t) (ht : Ends P g Q t) : Ends P g Q s
  | fork {s : ASt} {l : List ASt} (n : Nat) (hr : runF P g n s = .fork l) (ht : ∀ t ∈ l, Ends P g Q t) : Ends P g Q s
  | cut {s : ASt} (keep : List Nat) (hc : okCut P keep s = true) (ht : Ends P g Q (cutA keep s)) : Ends P g Q s
  | weak {s : ASt} (keep js ns : List Nat) (hc : okCutW P keep js s = true) (ht : Ends P g Q (cutW keep js ns s)) : Ends P g Q s

noncomputable section
def chk (P : Program) (keep : List Nat) (o : AOut) : Option ASt :=
  match o with
  | .next t => bif okCut P keep t then some (cutA keep t) else none
  | _ => none
def chkW (P : Program) (keep js ns : List Nat) (o : AOut) : Option ASt :=
  match o with
  | .next t => bif okCutW P keep js t then some (cutW keep js ns t) else none
  | _ => none
def chkF (P : Program) (keep : List Nat) (o : AOut) : Option (List ASt) :=
  match o with
  | .fork l => bif l.all (okCut P keep) then some (l.map (cutA keep)) else none
  | _ => none
def chkD (o : AOut) : Option AV :=
  match o with
  | .done v _ => some v
  | _ => none

/-- Each branch of a fork, run on by n steps and cut. -/
def runL [Summ] (P : Program) (g n : Nat) (keep js ns : List Nat) : List ASt → Option (List ASt)
  | [] => some []
  | t :: l =>
    match chkW P keep js ns (runF P g n t) with
    | some u => match runL P g n keep js ns l with
      | some r => some (u :: r)
      | none => none
    | none => none
def chkB [Summ] (P : Program) (g n : Nat) (keep js ns : List Nat) (o : AOut) : Option (List ASt) :=
  match o with
  | .fork l => runL P g n keep js ns l
  | _ => none
end

section
variable [Summ] {P : Program} {g : Nat} {Q : AV → Prop}

theorem Ends.of_chkD {s : ASt} {v : AV} (n : Nat) (h : chkD (runF P g n s) = some v) (hq : Q v) : Ends P g Q s := by
  unfold chkD at h
  split at h
  · rename_i v' h' hr
    simp only [Option.some.injEq] at h
    subst h
    exact .done n hr hq
  · cases h

theorem Ends.of_chk {s t : ASt} (n : Nat) (keep : List Nat) (h : chk P keep (runF P g n s) = some t) (ht : Ends P g Q t) : Ends P g Q s := by
  unfold chk at h
  split at h
  · rename_i t' hr
    cases hc : okCut P keep t' <;> rw [hc] at h <;> simp only [cond_true, cond_false, reduceCtorEq, Option.some.injEq] at h
    subst h
    exact .next n hr (.cut keep hc ht)
  · cases h

theorem Ends.of_chkW {s t : ASt} (n : Nat) (keep js ns : List Nat) (h : chkW P keep js ns (runF P g n s) = some t) (ht : Ends P g Q t) : Ends P g Q s := by
  unfold chkW at h
  split at h
  · rename_i t' hr
    cases hc : okCutW P keep js t' <;> rw [hc] at h <;> simp only [cond_true, cond_false, reduceCtorEq, Option.some.injEq] at h
    subst h
    exact .next n hr (.weak keep js ns hc ht)
  · cases h

theorem Ends.of_chkF {s : ASt} {l : List ASt} (n : Nat) (keep : List Nat) (h : chkF P keep (runF P g n s) = some l) (ht : ∀ t ∈ l, Ends P g Q t) : Ends P g Q s := by
  unfold chkF at h
  split at h
  · rename_i l' hr
    cases hc : l'.all (okCut P keep) <;> rw [hc] at h <;> simp only [cond_true, cond_false, reduceCtorEq, Option.some.injEq] at h
    subst h
    exact .fork n hr (fun t ht' => .cut keep (List.all_eq_true.1 hc t ht') (ht _ (List.mem_map.2 ⟨t, ht', rfl⟩)))
  · cases h

theorem runL_ends {n : Nat} {keep js ns : List Nat} : ∀ {l r : List ASt}, runL P g n keep js ns l = some r → (∀ t ∈ r, Ends P g Q t) → ∀ t ∈ l, Ends P g Q t
  | [], _, _, _, t, ht => by cases ht
  | x :: l, r, h, hr, t, ht => by
    unfold runL at h
    split at h
    · rename_i u hu
      split at h
      · rename_i r' hr'
        simp only [Option.some.injEq] at h
        subst h
        rcases List.mem_cons.1 ht with rfl | ht
        · exact Ends.of_chkW n keep js ns hu (hr _ (List.mem_cons_self ..))
        · exact runL_ends hr' (fun t ht => hr t (List.mem_cons_of_mem _ ht)) t ht
      · cases h
    · cases h

theorem Ends.of_chkB {s : ASt} {l : List ASt} (m n : Nat) (keep js ns : List Nat) (h : chkB P g n keep js ns (runF P g m s) = some l) (ht : ∀ t ∈ l, Ends P g Q t) : Ends P g Q s := by
  unfold chkB at h
  split at h
  · rename_i l' hr
    exact .fork m hr (runL_ends h ht)
  · cases h

theorem Ends.sound {E : Nat → Value} {G : Nat} {w0 : World} {base : List Frame} {f : Nat} (hE : ∀ i, (E i).oneCell' = true) (hS : SumOk E G w0 P) (hg : ∀ n, Nat.testBit g n = true → Nat.testBit G n = true) (hmix : P.follows .mixedOrders = true) {s : ASt} (h : Ends P g Q s) :
    ∀ {m : Machine}, StR E G w0 P g base f s m → ∃ v h', Q v ∧ OutR E G w0 P g base f m (.done v h') := by
  induction h with
  | @done s v h n hr hq =>
    intro m hs
    have := run_sound hE hS hg hmix n hs
    rw [← runF_eq, hr] at this
    exact ⟨v, h, hq, this⟩
  | @next s t n hr _ ih =>
    intro m hs
    have := run_sound hE hS hg hmix n hs
    rw [← runF_eq, hr] at this
    obtain ⟨m', h1, h2⟩ := this
    obtain ⟨v, h', hq, ho⟩ := ih h2
    exact ⟨v, h', hq, ho.steps h1⟩
  | @fork s l n hr _ ih =>
    intro m hs
    have := run_sound hE hS hg hmix n hs
    rw [← runF_eq, hr] at this
    obtain ⟨s', m', h0, h1, h2⟩ := this
    obtain ⟨v, h', hq, ho⟩ := ih s' h0 h2
    exact ⟨v, h', hq, ho.steps h1⟩
  | @cut s keep hc _ ih => intro m hs; exact ih (hs.cut hc)
  | @weak s keep js ns hc _ ih => intro m hs; exact ih (hs.cutW hE hc)

/-- A call, out of a run in parts. -/
theorem calls_of_ends {E : Nat → Value} {G : Nat} {w : World} (hE : ∀ i, (E i).oneCell' = true) (hS : SumOk E G w P) (hmix : P.follows .mixedOrders = true) {f : FuncId} {args : List Value} {ρ : Rho} {h : Heap} (hr : HeapR E G w ρ h w)
    {al : List AV} (hal : F2 (VR E ρ) al args) {fr : AFr} (hfr : enterA P f al = some fr) (hends : Ends P G Q ⟨fr, [], h⟩) :
    Calls P f ⟨args⟩ w (fun e w' => ∃ v x ρ', Q v ∧ e = .returned x ∧ VR E ρ' v x ∧ Below w.heap.size w w') := by
  intro cs
  obtain ⟨b, a, todo, h1, h2⟩ := enterA_sound (P := P) hfr hal
  have hfn : fr.fn = f := by
    unfold enterA at hfr
    split at hfr
    · split at hfr
      · cases hb : (Nat.ble al.length _ && Nat.blt al.length LIMIT) <;> rw [hb] at hfr <;> simp only [cond_true, cond_false, reduceCtorEq, Option.some.injEq] at hfr
        subst hfr; rfl
      · cases hfr
    · cases hfr
  have hst : StR E G w P G cs f ⟨fr, [], h⟩ (lone (Frame.enter P f ⟨args⟩ .normal) cs w) := by
    rw [h1]
    exact ⟨ρ, b, a, todo, [], w, h.next, rfl, hr, Nat.le_refl _, ⟨h2.base, .inl ⟨h2.todo, h2.env⟩⟩, .nil _, hfn⟩
  obtain ⟨v, h', hq, fr', w', ρ', x, k1, k2, k3, k4, k5⟩ := Ends.sound hE hS (fun _ hn => hn) hmix hends hst
  exact ⟨.returned x, w', fr', ⟨v, x, ρ', hq, rfl, k4, k5.below⟩, k1, k2, k3⟩
end
end Go.AM
/- States of the abstract machine, written down; the summary of a search in a string. -/
namespace Go.AM
noncomputable section

/-- A function's text. -/
def bodyC (P : Program) (f : Nat) : Code :=
  match P.funcs.toList[f]? with
  | some fn => match fn.body with
    | some c => c
    | none => .skip
  | none => .skip

def subC (c : Code) (k : Nat) : Code :=
  match c with
  | .seq a b => match k with | 0 => a | _ => b
  | .cond _ a b => match k with | 0 => a | _ => b
  | .block _ b => b
  | .loop b => b
  | .scope b => b
  | .rangeFunc _ _ a b => match k with | 0 => a | _ => b
  | c => c

def codeAt (c : Code) : List Nat → Code
  | [] => c
  | k :: p => codeAt (subC c k) p

/-- A region under way, from its k-th operation on. -/
def regAt (c : Code) (k : Nat) : AItem :=
  match c with
  | .region _ ops _ => .reg ops (ops.toList.drop k)
  | _ => .beginRound

def opsAt (c : Code) : Array Oper :=
  match c with
  | .region _ ops _ => ops
  | _ => #[]

def pendL (ops : List Oper) : List (Nat × List AV × AV) → List Pend
  | [] => []
  | p :: ps => match ops[p.1]? with
    | some o => ⟨p.1, o, p.2.1, p.2.2⟩ :: pendL ops ps
    | none => pendL ops ps

/-- A region under way whose order is drawn: the operations 'ix' are left. -/
def dregAt (c : Code) (env0 : T AV) (ix : List Nat) (done : Nat) (pend : List (Nat × List AV × AV)) : AItem :=
  .dreg ⟨opsAt c, env0, (dItems (opsAt c)).filter fun x => ix.any (Nat.beq x.1), done, pendL (opsAt c).toList pend⟩

/-- A row of bytes out of a number. -/
def bytesT (k n : Nat) : T AV := rowLay (strCells k n k 0) 0 .leaf

/-! ### Where a string stands in another -/
def findSub (len n lm m : Nat) : Nat → Nat → Option Nat
  | 0, _ => none
  | k + 1, i => bif Nat.beq (n / 256 ^ (len - lm - i) % 256 ^ lm) m then some i else findSub len n lm m k (i + 1)

def isExtAt (h : Heap) (g x : Nat) : Bool :=
  match h.at g with
  | .cells row (_ + 1) _ _ _ _ _ => match rowGet row 0 with
    | .ext y => Nat.beq x y
    | _ => false
  | _ => false

/-- The answers of 'internal/stringslite.Index', which is function 'idx'; variable 'g' holds the longest needle, that is any. -/
def idxSm (idx g x : Nat) (_P : Program) (h : Heap) (f : Nat) (args : List AV) : Option AV :=
  bif Nat.beq f idx then
    match args with
    | [.str len n, .str lm m] =>
      bif isExtAt h g x && Nat.ble len 1000000 then
        bif Nat.ble lm len then
          match findSub len n lm m (len + 1 - lm) 0 with
          | some i => some (mkInt .i64 (.ofNat i))
          | none => some (.int .i64 (-1))
        else some (.int .i64 (-1))
      else none
    | _ => none
  else none

/-- The answers known in a law: function 'aw' answers true; function 'sh' answers 'b' for the arguments 'q'; 'rest' besides. -/
def lawSm (aw sh : Nat) (b : Bool) (q : List AV) (rest : Program → Heap → Nat → List AV → Option AV) (P : Program) (h : Heap) (f : Nat) (args : List AV) : Option AV :=
  bif Nat.beq f aw then
    match args with
    | [] => some (.bool true)
    | _ => none
  else bif Nat.beq f sh then
    bif avEq (AV.ofList args) (AV.ofList q) then some (.bool b) else none
  else rest P h f args

/-- The numbers of U that S lacks. -/
def remN (U S : List Nat) : List Nat := U.filter fun k => !S.any (Nat.beq k)
end

/-- A walk over a map in any order, a level at a time: the entries seen are one more. -/
theorem join_level [Summ] {P : Program} {g : Nat} {Q : AV → Prop} {jM : List Nat → ASt} {U : List Nat} (n : Nat) (keep js ns : List Nat) {A B : List (List Nat)}
    (h : (A.map fun S => chkB P g n keep js ns (runF P g 1 (jM S))) = A.map fun S => some ((remN U S).map fun k => jM (insN k S)))
    (hm : (A.all fun S => (remN U S).all fun k => B.contains (insN k S)) = true) (hB : ∀ S ∈ B, Ends P g Q (jM S)) : ∀ S ∈ A, Ends P g Q (jM S) := by
  intro S hS
  have h1 : chkB P g n keep js ns (runF P g 1 (jM S)) = some ((remN U S).map fun k => jM (insN k S)) := List.map_inj_left.1 h S hS
  refine Ends.of_chkB 1 n keep js ns h1 (fun t ht => ?_)
  obtain ⟨k, hk, rfl⟩ := List.mem_map.1 ht
  have := List.all_eq_true.1 (List.all_eq_true.1 hm S hS) k hk
  exact hB _ (List.contains_iff_mem.1 this)

/-- The level below the last: one entry is left. -/
theorem join_last [Summ] {P : Program} {g : Nat} {Q : AV → Prop} {jM : List Nat → ASt} {U : List Nat} (n : Nat) (keep js ns : List Nat) {A : List (List Nat)}
    (h : (A.map fun S => chkW P keep js ns (runF P g n (jM S))) = A.map fun _ => some (jM U)) (hU : Ends P g Q (jM U)) : ∀ S ∈ A, Ends P g Q (jM S) := by
  intro S hS
  have h1 : chkW P keep js ns (runF P g n (jM S)) = some (jM U) := List.map_inj_left.1 h S hS
  exact Ends.of_chkW n keep js ns h1 hU

end Go.AM

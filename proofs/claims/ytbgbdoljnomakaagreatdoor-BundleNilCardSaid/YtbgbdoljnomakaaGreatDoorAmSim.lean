/- A run of the abstract machine that ends tells how the model's call ends. -/
import Derived.Test.YtbgbdoljnomakaaGreatDoorAmDraw
namespace Go.AM
open Go.RowKit (Below)
variable {E : Nat → Value} {G : Nat} {w0 : World} {ρ : Rho} {h : Heap} {w : World} {P : Program}
variable {g lo hi : Nat}

/-! ### Frames and those that wait -/
structure FrR (E : Nat → Value) (P : Program) (g : Nat) (ρ : Rho) (h : Heap) (lo hi : Nat) (af : AFr) (b : Frame) (a : Act) (todo : List Item) : Prop where
  base : BaseR ρ af b a
  run : (F2 (ItemR ρ) af.todo todo ∧ EnvR E ρ af.env a.tmps) ∨
    (∃ d k k' l gh ls, af.todo = .dreg d :: k ∧ todo = .inRegion d.ops l :: k' ∧ F2 (ItemR ρ) k k' ∧ DrawR E P g ρ h lo hi gh d af.env a.tmps ls l)

structure WaitR (E : Nat → Value) (P : Program) (g : Nat) (ρ : Rho) (h : Heap) (lo hi : Nat) (af : AFr) (b : Frame) (a : Act) (todo : List Item) : Prop where
  base : BaseR ρ af b a
  run : (F2 (ItemR ρ) af.todo todo ∧ EnvR E ρ af.env a.tmps) ∨
    (∃ d k k' i m o rest l gh ls, af.todo = .dreg d :: k ∧ todo = .inRegion d.ops (i :: l) :: k' ∧ F2 (ItemR ρ) k k' ∧ DrawR E P g ρ h lo hi gh d af.env a.tmps ls (i :: l) ∧ d.todo = (i, m, o) :: rest ∧ doneAll d.done m = true)

theorem WaitR.ext {af : AFr} {b : Frame} {a : Act} {todo : List Item} (hw : WaitR E P g ρ h lo hi af b a todo) {ρ' : Rho} {h' : Heap} (he : ExtN hi ρ h ρ' h') : WaitR E P g ρ' h' lo hi af b a todo := by
  refine ⟨hw.base.mono he.le, ?_⟩
  rcases hw.run with ⟨h1, h2⟩ | ⟨d, k, k', i, m, o, rest, l, gh, ls, h1, h2, h3, h4, h5, h6⟩
  · exact .inl ⟨h1.imp fun _ _ hi => hi.mono he.le, h2.mono he.le⟩
  · exact .inr ⟨d, k, k', i, m, o, rest, l, gh, ls, h1, h2, h3.imp fun _ _ hi => hi.mono he.le, h4.ext he, h5, h6⟩

theorem DrawR.widen {gh : Nat → Option Nat} {d : DReg} {env : T AV} {tmps : Array Value} {ls : Array Bool} {l : List Nat} (hd : DrawR E P g ρ h lo hi gh d env tmps ls l) {hi' : Nat} (hh : hi ≤ hi') : DrawR E P g ρ h lo hi' gh d env tmps ls l :=
  { ok := hd.ok, lin := hd.lin, lsz := hd.lsz, sub := hd.sub, closed := hd.closed, dlt := hd.dlt, dclosed := hd.dclosed, todo1 := hd.todo1, todo2 := hd.todo2, todo3 := hd.todo3, keep := hd.keep, in1 := hd.in1, in0 := hd.in0,
    ghost := fun i b hb => ⟨(hd.ghost i b hb).1, Nat.lt_of_lt_of_le (hd.ghost i b hb).2 hh⟩, inj := hd.inj, light := hd.light }

inductive StackR (E : Nat → Value) (P : Program) (g : Nat) (ρ : Rho) (h : Heap) : Nat → List AFr → List Frame → Prop where
  | nil (N : Nat) : StackR E P g ρ h N [] []
  | cons {N lo : Nat} {af : AFr} {acs : List AFr} {b : Frame} {a : Act} {todo : List Item} {cs : List Frame} (hlo : lo ≤ N) (hw : WaitR E P g ρ h lo N af b a todo) (t : StackR E P g ρ h lo acs cs) : StackR E P g ρ h N (af :: acs) (b.atR a todo :: cs)

theorem StackR.ext {N : Nat} {acs : List AFr} {cs : List Frame} (hs : StackR E P g ρ h N acs cs) {ρ' : Rho} {h' : Heap} (he : ExtN N ρ h ρ' h') : StackR E P g ρ' h' N acs cs := by
  induction hs with
  | nil N => exact .nil N
  | cons hlo hw _ ih => exact .cons hlo (hw.ext he) (ih (he.mono hlo))

def bottomFn : AFr → List AFr → Nat
  | fr, [] => fr.fn
  | _, c :: cs => bottomFn c cs

theorem bottomFn_congr {a b : AFr} (h : a.fn = b.fn) (cs : List AFr) : bottomFn a cs = bottomFn b cs := by
  cases cs with
  | nil => exact h
  | cons c cs => rfl

/-- The abstract machine and the model's. -/
def StR (E : Nat → Value) (G : Nat) (w0 : World) (P : Program) (g : Nat) (base : List Frame) (f : Nat) (s : ASt) (m : Machine) : Prop :=
  ∃ ρ b a todo cs w lo, m = lone (b.atR a todo) (cs ++ base) w ∧ HeapR E G w0 ρ s.h w ∧ lo ≤ s.h.next ∧ FrR E P g ρ s.h lo s.h.next s.fr b a todo ∧ StackR E P g ρ s.h lo s.cs cs ∧ bottomFn s.fr s.cs = f

/-- The same frame goes on. -/
theorem StR.same {base : List Frame} {f : Nat} {s : ASt} {cs : List Frame} (hlo : lo ≤ s.h.next) (hst : StackR E P g ρ s.h lo s.cs cs) (hbot : bottomFn s.fr s.cs = f) {ρ' : Rho} {h' : Heap} {w' : World} {af : AFr} {b : Frame} {a : Act} {todo : List Item}
    (hr : HeapR E G w0 ρ' h' w') (he : ExtN lo ρ s.h ρ' h') (hf : FrR E P g ρ' h' lo h'.next af b a todo) (hfn : af.fn = s.fr.fn) : StR E G w0 P g base f ⟨af, s.cs, h'⟩ (lone (b.atR a todo) (cs ++ base) w') :=
  ⟨ρ', b, a, todo, cs, w', lo, rfl, hr, Nat.le_trans hlo he.next, hf, hst.ext he, by rw [← hbot]; exact bottomFn_congr hfn _⟩

/-- A plain frame with other items. -/
theorem FrR.plain {af af' : AFr} {b : Frame} {a : Act} {todo : List Item} (hb : BaseR ρ af b a) (h1 : F2 (ItemR ρ) af'.todo todo) (h2 : EnvR E ρ af'.env a.tmps) (hfn : af'.fn = af.fn) (hsz : af'.size = af.size) (hdf : af'.defers = af.defers) (hrd : af'.round = af.round) :
    FrR E P g ρ h lo hi af' b a todo :=
  ⟨⟨by rw [hfn]; exact hb.fn, hb.kind, by rw [hsz]; exact hb.size, by rw [hdf]; exact hb.defers, by rw [hrd]; exact hb.round⟩, .inl ⟨h1, h2⟩⟩

/-- A frame whose first item is no region under way. -/
theorem FrR.open_ {af : AFr} {b : Frame} {a : Act} {todo : List Item} (hf : FrR E P g ρ h lo hi af b a todo) (hn : ∀ d k, af.todo ≠ .dreg d :: k) : F2 (ItemR ρ) af.todo todo ∧ EnvR E ρ af.env a.tmps := by
  rcases hf.run with h1 | ⟨d, k, _, _, _, _, h1, _⟩
  · exact h1
  · exact absurd h1 (hn d k)

/-! ### Going on behind a call -/
theorem finish_sound {af af' : AFr} {b : Frame} {a : Act} {todo : List Item} (hw : WaitR E P g ρ h lo hi af b a todo) {v : AV} (hs : finishA af v = some af') {x : Value} (hx : VR E ρ v x) :
    ∃ a' todo', (b.atR a todo).finish x = b.atR a' todo' ∧ FrR E P g ρ h lo hi af' b a' todo' ∧ af'.fn = af.fn := by
  unfold finishA at hs
  split at hs
  · rename_i ops o rest k htodo
    split at hs
    · rename_i e he
      simp only [Option.some.injEq] at hs; subst hs
      rcases hw.run with ⟨h1, h2⟩ | ⟨d, k, _, _, _, _, _, _, _, _, h1, _⟩
      · rw [htodo] at h1
        cases h1 with
        | @cons _ y _ ys q1 q2 =>
          obtain ⟨n, hn, rfl, hrest⟩ := q1
          have hlt : n < ops.size := by
            rcases Nat.lt_or_ge n ops.size with hl | hl
            · exact hl
            · rw [List.drop_of_length_le (by simp; exact hl)] at hrest; cases hrest
          have hdrop : ops.toList.drop n = ops[n] :: ops.toList.drop (n + 1) := by
            rw [List.drop_eq_getElem_cons (by simp; exact hlt)]; simp
          rw [hdrop] at hrest
          simp only [List.cons.injEq] at hrest
          obtain ⟨ho, hre⟩ := hrest
          have hrange : List.range' n (ops.size - n) = n :: List.range' (n + 1) (ops.size - (n + 1)) := by
            rw [show ops.size - n = (ops.size - (n + 1)) + 1 from by omega, List.range'_succ]
          rw [← hw.base.size] at he
          refine ⟨a.put o.dst x, .inRegion ops (List.range' (n + 1) (ops.size - (n + 1))) :: ys, ?_, ⟨⟨hw.base.fn, hw.base.kind, by rw [put_size]; exact hw.base.size, by rw [put_defers]; exact hw.base.defers, hw.base.round⟩, .inl ⟨.cons ⟨n + 1, hlt, rfl, hre⟩ q2, EnvR.put h2 hx he⟩⟩, rfl⟩
          rw [hrange, Frame.finish_atR]
          have : (ops[n]?).bind (·.dst) = o.dst := by rw [Array.getElem?_eq_getElem hlt, ho]; rfl
          rw [this]
      · rw [htodo] at h1; simp at h1
    · cases hs
  · rename_i d k htodo
    split at hs
    · rename_i y rest hd
      split at hs
      · rename_i e he
        simp only [Option.some.injEq] at hs; subst hs
        rcases hw.run with ⟨h1, h2⟩ | ⟨d', k1, k', i, m, o, rest', l, gh, ls, h1, h2, h3, h4, h5, h6⟩
        · rw [htodo] at h1
          cases h1 with
          | cons q1 _ => exact q1.elim
        · rw [htodo] at h1
          simp only [List.cons.injEq, AItem.dreg.injEq] at h1
          obtain ⟨rfl, rfl⟩ := h1
          rw [hd] at h5
          simp only [List.cons.injEq] at h5
          obtain ⟨rfl, rfl⟩ := h5
          rw [← hw.base.size] at he
          have hnew := h4.heavy hd h6 he rfl hx
          obtain ⟨ho, _⟩ := h4.mark (pre := []) hd h6
          refine ⟨a.put o.dst x, .inRegion d.ops l :: k', ?_, ⟨⟨hw.base.fn, hw.base.kind, by rw [put_size]; exact hw.base.size, by rw [put_defers]; exact hw.base.defers, hw.base.round⟩, .inr ⟨_, k, k', l, gh, _, rfl, rfl, h3, hnew⟩⟩, rfl⟩
          rw [h2, Frame.finish_atR]
          have : (d.ops[i]?).bind (·.dst) = o.dst := by rw [ho]; rfl
          rw [this]
      · cases hs
    · cases hs
  · rename_i l k htodo
    simp only [Option.some.injEq] at hs; subst hs
    rcases hw.run with ⟨h1, h2⟩ | ⟨d, k, _, _, _, _, _, _, _, _, h1, _⟩
    · rw [htodo] at h1
      cases h1 with
      | @cons _ y _ ys q1 q2 =>
        obtain ⟨c, hc, rfl⟩ := q1
        refine ⟨a, .endRangeFunc c.blk :: ys, finish_atR_inRangeFunc _ _, ⟨⟨hw.base.fn, hw.base.kind, hw.base.size, hw.base.defers, hw.base.round⟩, .inl ⟨.cons ⟨c, hc, rfl⟩ q2, h2⟩⟩, rfl⟩
    · rw [htodo] at h1; simp at h1
  · cases hs

/-! ### Returning -/
def retF (b : Frame) (a : Act) (todo : List Item) : Frame := { b.atR a todo with mode := .returning }

theorem takeDefers_sound {b : Frame} {todo : List Item} {cs : List Frame} : ∀ {ds : List Nat} {dl : List Deferred} {h h' : Heap} {w : World} {tmps : Array Value}, takeDefers h ds = some h' → F2 (MarkR ρ) ds dl → HeapR E G w0 ρ h w →
    ∃ w', Steps P (lone (retF b ⟨tmps, dl⟩ todo) cs w) (lone (retF b ⟨tmps, []⟩ todo) cs w') ∧ HeapR E G w0 ρ h' w' ∧ Ext ρ h ρ h' := by
  intro ds
  induction ds with
  | nil =>
    intro dl h h' w tmps hs hd hr
    cases hd
    simp only [takeDefers, Option.some.injEq] at hs; subst hs
    exact ⟨w, .refl _ _, hr, Ext.refl _ _⟩
  | cons x ds ih =>
    intro dl h h' w tmps hs hd hr
    cases hd with
    | @cons _ y _ dl q1 q2 =>
      obtain ⟨l, el, rfl⟩ := q1
      simp only [takeDefers] at hs
      split at hs
      · rename_i hat
        obtain ⟨o, h1, h2⟩ := hr.obj x l el
        rw [hat] at h2
        have h2' : o = .deferred (some []) := h2
        subst h2'
        obtain ⟨k1, k2⟩ := hr.set el (by rw [hat]; rfl) (by rw [hat]; rfl) (a := .dfr false) (o := .deferred none) rfl
        obtain ⟨w', s1, s2, s3⟩ := ih (tmps := tmps) hs q2 k1
        refine ⟨w', .head ?_ s1, s2, k2.trans s3⟩
        have htk : (Instr.takeDeferred l.blk).run P w = .ok [] { w with heap := w.heap.setIfInBounds l.blk (.deferred none) } := by
          unfold Instr.takeDeferred
          simp only [Sem.run_bind, run_getObj_ok h1 rfl, Result.andThen_ok, run_setObj_ok h1 (rfl : isCells (.deferred _) = false), Sem.run_pure]
        exact step_lone_go (by simp [stepG, unwind, retF, Frame.atR, Sem.runT_eq, htk])
      · cases hs

/-- One result variable. -/
def resOf (tmps : Array Value) : ResultVar → Sem Value
  | .tmp t => pure (tmps.getD t Go.undef)
  | .cell a t => do loadVar t (← asAddr (tmps.getD a Go.undef))

theorem resOf_sound (hr : HeapR E G w0 ρ h w) {env : T AV} {tmps : Array Value} (he : EnvR E ρ env tmps) {r : ResultVar} {v : AV} (hv : (match r with
      | .tmp t => some (envGet env t)
      | .cell a t => match envGet env a with
        | .ptr b off => loadVarA P t h b off
        | _ => none) = some v) : ∃ x, VR E ρ v x ∧ (resOf tmps r).run P w = .ok x w := by
  cases r with
  | tmp t =>
    simp only [Option.some.injEq] at hv; subst hv
    exact ⟨_, he t, rfl⟩
  | cell a t =>
    simp only at hv
    split at hv
    · rename_i b off hb
      have ha := he a
      rw [hb] at ha
      obtain ⟨l, el, hl⟩ := ha
      obtain ⟨x, k1, k2⟩ := loadVar_sound (P := P) hr el hv
      refine ⟨x, k2, ?_⟩
      simp only [resOf, Sem.run_bind, hl, asAddr, Sem.run_pure, Result.andThen_ok, k1]
    · cases hv

theorem resultA_sound (hr : HeapR E G w0 ρ h w) {env : T AV} {tmps : Array Value} (he : EnvR E ρ env tmps) : ∀ {rs : List ResultVar} {vs : List AV}, resultA P h env rs = some vs →
    ∃ xs, F2 (VR E ρ) vs xs ∧ (rs.mapM (resOf tmps)).run P w = .ok xs w := by
  intro rs
  induction rs with
  | nil => intro vs hs; simp only [resultA, Option.some.injEq] at hs; subst hs; exact ⟨[], .nil, rfl⟩
  | cons r rs ih =>
    intro vs hs
    simp only [resultA] at hs
    split at hs
    · rename_i v hv
      split at hs
      · rename_i vs' hvs
        simp only [Option.some.injEq] at hs; subst hs
        obtain ⟨xs, h1, h2⟩ := ih hvs
        obtain ⟨x, k1, k2⟩ := resOf_sound (P := P) hr he hv
        refine ⟨x :: xs, .cons k1 h1, ?_⟩
        rw [List.mapM_cons]
        simp only [Sem.run_bind, k2, h2, Result.andThen_ok, Sem.run_pure]
      · cases hs
    · cases hs

theorem results_eq (fn : Func) (tmps : Array Value) : results fn tmps = (do
    let vs ← fn.results.mapM (resOf tmps)
    pure (if h : vs.size = 1 then vs[0] else .tuple vs) : Sem Value) := by
  unfold results
  congr 2

theorem results_sound (hr : HeapR E G w0 ρ h w) {env : T AV} {tmps : Array Value} (he : EnvR E ρ env tmps) {fn : Func} {vs : List AV} (hs : resultA P h env fn.results.toList = some vs) :
    ∃ x, VR E ρ (match vs with | [v] => v | vs => .tup (AV.ofList vs)) x ∧ (results fn tmps).run P w = .ok x w := by
  obtain ⟨xs, h1, h2⟩ := resultA_sound (P := P) hr he hs
  have hrun : (results fn tmps).run P w = .ok (if h : xs.length = 1 then xs[0]'(by omega) else .tuple ⟨xs⟩) w := by
    rw [results_eq, Array.mapM_eq_mapM_toList]
    simp only [bind_pure_comp, Sem.run_map, h2, Result.andThen_ok]
    simp
  rw [hrun]
  split
  · rename_i v
    obtain ⟨x, rfl, hx⟩ := F2.left_one h1
    exact ⟨x, hx, rfl⟩
  · rename_i hne
    refine ⟨.tuple ⟨xs⟩, CL.tup (CL.ofList h1), ?_⟩
    rw [dif_neg]
    intro hl
    have := h1.length
    rw [hl] at this
    obtain ⟨v, rfl⟩ := List.length_eq_one_iff.1 this
    exact hne v rfl

end Go.AM
namespace Go.AM
open Go.RowKit (Below)
variable {E : Nat → Value} {G : Nat} {w0 : World} {ρ : Rho} {h : Heap} {w : World} {P : Program}
variable {g lo hi : Nat}

/-- What is asked of a step's outcome. -/
def OutR (E : Nat → Value) (G : Nat) (w0 : World) (P : Program) (g : Nat) (base : List Frame) (f : Nat) (m : Machine) : AOut → Prop
  | .next s' => ∃ m', Steps P m m' ∧ StR E G w0 P g base f s' m'
  | .done v h' => ∃ fr w' ρ' x, Steps P m (lone fr base w') ∧ fr.fn = f ∧ fr.leaving P w' (.returned x) ∧ VR E ρ' v x ∧ HeapR E G w0 ρ' h' w'
  | .fail _ => True
  | .fork l => ∃ s' m', s' ∈ l ∧ Steps P m m' ∧ StR E G w0 P g base f s' m'

section
variable {base : List Frame} {f : Nat}

theorem OutR.steps {m m' : Machine} (hs : Steps P m m') {o : AOut} (ho : OutR E G w0 P g base f m' o) : OutR E G w0 P g base f m o := by
  cases o with
  | next s' => obtain ⟨m2, h1, h2⟩ := ho; exact ⟨m2, hs.trans h1, h2⟩
  | done v h' => obtain ⟨fr, w', ρ', x, h1, h2⟩ := ho; exact ⟨fr, w', ρ', x, hs.trans h1, h2⟩
  | fail _ => trivial
  | fork l => obtain ⟨s', m2, h0, h1, h2⟩ := ho; exact ⟨s', m2, h0, hs.trans h1, h2⟩

theorem FrR.widen {af : AFr} {b : Frame} {a : Act} {todo : List Item} (hf : FrR E P g ρ h lo hi af b a todo) {hi' : Nat} (hh : hi ≤ hi') : FrR E P g ρ h lo hi' af b a todo := by
  refine ⟨hf.base, ?_⟩
  rcases hf.run with h1 | ⟨d, k, k', l, gh, ls, h1, h2, h3, h4⟩
  · exact .inl h1
  · exact .inr ⟨d, k, k', l, gh, ls, h1, h2, h3, h4.widen hh⟩

/-- The caller goes on. -/
theorem resume_sound {N : Nat} {c c' : AFr} {acs : List AFr} {cfr : Frame} {cs : List Frame} (hst : StackR E P g ρ h N (c :: acs) (cfr :: cs)) (hN : N ≤ h.next) (hr : HeapR E G w0 ρ h w) {v : AV} {x : Value} (hx : VR E ρ v x) (hs : finishA c v = some c') (hbot : bottomFn c acs = f) :
    StR E G w0 P g base f ⟨c', acs, h⟩ (lone (cfr.finish x) (cs ++ base) w) := by
  cases hst with
  | @cons _ lo _ _ b a todo _ hlo hw t =>
    obtain ⟨a', todo', h1, h2, h3⟩ := finish_sound hw hs hx
    rw [h1]
    exact ⟨ρ, b, a', todo', cs, w, lo, rfl, hr, Nat.le_trans hlo hN, h2.widen hN, t, by rw [← hbot]; exact bottomFn_congr h3 _⟩

/-- The frame is left. -/
theorem pop_sound {N : Nat} {af : AFr} {acs : List AFr} {cs : List Frame} (hst : StackR E P g ρ h N acs cs) (hN : N ≤ h.next) (hr : HeapR E G w0 ρ h w) {v : AV} {x : Value} (hx : VR E ρ v x) {fr : Frame} (hl : fr.leaving P w (.returned x)) (hfn : fr.fn = af.fn) (hbot : bottomFn af acs = f) :
    OutR E G w0 P g base f (lone fr (cs ++ base) w) (popA acs v h) := by
  unfold popA
  cases acs with
  | nil =>
    cases hst with
    | nil => exact ⟨fr, w, ρ, x, .refl _ _, by rw [hfn]; exact hbot, hl, hx, hr⟩
  | cons c acs =>
    simp only
    split
    · rename_i c' hc'
      cases cs with
      | nil => cases hst
      | cons cfr cs =>
        exact ⟨_, .one (step_leave_returned hl), resume_sound hst hN hr hx hc' hbot⟩
    · trivial

theorem return_sound {s : ASt} {cs : List Frame} {b : Frame} {a : Act} {todo : List Item} (hr : HeapR E G w0 ρ s.h w) (hlo : lo ≤ s.h.next) (hb : BaseR ρ s.fr b a) (he : EnvR E ρ s.fr.env a.tmps) (hst : StackR E P g ρ s.h lo s.cs cs) (hbot : bottomFn s.fr s.cs = f) :
    OutR E G w0 P g base f (lone (retF b a todo) (cs ++ base) w) (returnA P s) := by
  unfold returnA
  split
  · rename_i h' hh'
    split
    · rename_i fn hfn
      have hfn' : P.funcs[s.fr.fn]? = some fn := by simpa using hfn
      obtain ⟨w', s1, s2, s3⟩ := takeDefers_sound (P := P) (b := b) (todo := todo) (cs := cs ++ base) (tmps := a.tmps) hh' hb.defers hr
      have hleave : ∀ {x : Value}, (results fn a.tmps).run P w' = .ok x w' → (retF b ⟨a.tmps, []⟩ todo).leaving P w' (.returned x) := fun {x} hx =>
        ⟨rfl, rfl, hb.kind, fn, by show P.funcs[b.fn]? = some fn; rw [hb.fn]; exact hfn', hx⟩
      have hst' := hst.ext (s3.toN hlo)
      have hN : lo ≤ h'.next := Nat.le_trans hlo s3.next
      split
      · rename_i v hv
        obtain ⟨x, h1, h2⟩ := results_sound (P := P) s2 he hv
        exact OutR.steps s1 (pop_sound (af := s.fr) hst' hN s2 h1 (hleave h2) hb.fn hbot)
      · rename_i vs hne hv
        obtain ⟨x, h1, h2⟩ := results_sound (P := P) s2 he hv
        have h1' : VR E ρ (.tup (AV.ofList vs)) x := by
          split at h1
          · rename_i v; exact absurd rfl (hne v)
          · exact h1
        exact OutR.steps s1 (pop_sound (af := s.fr) hst' hN s2 h1' (hleave h2) hb.fn hbot)
      · trivial
    · trivial
  · trivial

/-! ### Leaving a round -/
theorem run_endRound {l : Nat} {r : Loop} (hb : w.heap[l]? = some (.loop r)) (jump : Option Code) :
    (Instr.endRound l jump).run P w = .ok (.bool jump.isNone) { w with heap := w.heap.setIfInBounds l (.loop { r with state := if jump.isNone then .ready else .done, pending := jump }) } := by
  unfold Instr.endRound
  simp only [Sem.run_bind, run_getLoop hb, Result.andThen_ok, run_setObj_ok hb rfl, Sem.run_pure]

theorem endRound_sound {s : ASt} {cs : List Frame} {b : Frame} {a : Act} {todo : List Item} {l : Nat} {jump : Option Code} (hr : HeapR E G w0 ρ s.h w) (hlo : lo ≤ s.h.next) (hb : BaseR ρ s.fr b a) (hl : s.fr.round = some l) (hst : StackR E P g ρ s.h lo s.cs cs) (hbot : bottomFn s.fr s.cs = f)
    (hstep : ∀ (lb : Nat) (c : Frame) (cs' : List Frame) (v : Value) (w' : World), b.roundOf = some lb → (Instr.endRound lb jump).run P w = .ok v w' → step P (lone (b.atR a todo) (c :: cs') w) = .next (lone (c.finish v) cs' w')) :
    OutR E G w0 P g base f (lone (b.atR a todo) (cs ++ base) w) (endRoundA s l jump) := by
  unfold endRoundA
  split
  · rename_i st pending fn env size params assign body df c acs hat hdf hcs
    have hrd := hb.round
    rw [hl] at hrd
    obtain ⟨lc, el, hro⟩ := hrd
    obtain ⟨tmps, dl, g1, g2, g3, g4⟩ := hr.loopAt el hat
    have hend := run_endRound (P := P) g1 jump
    rw [hcs] at hst ⊢
    cases hst with
    | @cons _ lo' _ _ cb ca ctodo cs' hlo' hw t =>
      have hset := hr.set el (by rw [hat]; rfl) (by rw [hat]; rfl) (a := .loop (if jump.isNone then .ready else .done) jump fn env size params assign body df)
        (o := .loop { (⟨st, pending, fn, tmps, ⟨params⟩, assign, body, dl⟩ : Loop) with state := if jump.isNone then .ready else .done, pending := jump }) ⟨tmps, dl, rfl, g2, g3, g4⟩
      unfold popA
      simp only
      split
      · rename_i c' hc'
        refine ⟨_, .one (hstep lc.blk _ _ _ _ hro hend), ?_⟩
        have hst2 : StackR E P g ρ (s.h.put l (.loop (if jump.isNone then .ready else .done) jump fn env size params assign body df)) lo (c :: acs) (cb.atR ca ctodo :: cs') := (StackR.cons hlo' hw t).ext (hset.2.toN hlo)
        rw [hcs] at hbot
        exact resume_sound hst2 hlo hset.1 (show VR E ρ (.bool jump.isNone) (.bool jump.isNone) from rfl) hc' hbot
      · trivial
  · trivial

theorem stepR_inScope {b : Frame} {a : Act} {k : List Item} {cs : List Frame} {c : Code} : step P (lone (b.atR a (.inScope c :: k)) cs w) = .next (lone (b.atR a k) cs w) :=
  step_lone_go (by simp [stepG, stepG.exec, Frame.atR])
theorem stepR_scope {b : Frame} {a : Act} {k : List Item} {cs : List Frame} {c : Code} : step P (lone (b.atR a (.code (.scope c) :: k)) cs w) = .next (lone (b.atR a (.code c :: .inScope c :: k)) cs w) :=
  step_lone_go (by simp [stepG, stepG.exec, Frame.atR])

theorem leave_sound {s : ASt} {cs : List Frame} {b : Frame} {a : Act} {todo : List Item} {jump : Option Code} (hr : HeapR E G w0 ρ s.h w) (hlo : lo ≤ s.h.next) (hb : BaseR ρ s.fr b a) (he : EnvR E ρ s.fr.env a.tmps) (hst : StackR E P g ρ s.h lo s.cs cs) (hbot : bottomFn s.fr s.cs = f)
    (hret : b.roundOf = none → (jump = none ∨ jump = some .ret) → step P (lone (b.atR a todo) (cs ++ base) w) = .next (lone (retF b a todo) (cs ++ base) w))
    (hstep : ∀ (lb : Nat) (c : Frame) (cs' : List Frame) (v : Value) (w' : World), b.roundOf = some lb → (Instr.endRound lb jump).run P w = .ok v w' → step P (lone (b.atR a todo) (c :: cs') w) = .next (lone (c.finish v) cs' w')) :
    OutR E G w0 P g base f (lone (b.atR a todo) (cs ++ base) w) (leaveA P s jump) := by
  unfold leaveA
  split
  · rename_i hrn
    have hro : b.roundOf = none := by have := hb.round; rw [hrn] at this; exact this
    split
    · exact OutR.steps (.one (hret hro (.inl rfl))) (return_sound hr hlo hb he hst hbot)
    · exact OutR.steps (.one (hret hro (.inr rfl))) (return_sound hr hlo hb he hst hbot)
    · trivial
  · rename_i l hrl
    exact endRound_sound hr hlo hb hrl hst hbot hstep

/-! ### An operation -/
/-- What lay there lies there still, where below the heap's end nothing has turned. -/
theorem HeapR.later {w' : World} (hr : HeapR E G w0 ρ h w) (hb : Below w.heap.size w w') : HeapR E G w0 ρ h w' :=
  ⟨fun b l e => by
    obtain ⟨o, h1, h2⟩ := hr.obj b l e
    exact ⟨o, by rw [hb.block _ (hr.blk_lt e)]; exact h1, h2⟩, hr.sep, hr.dom, hr.low, hr.glob, hr.below.trans (hb.mono hr.size), hr.lim⟩

/-- The summaries are true: each call of which one speaks returns what it says, and turns nothing that was there. -/
def SumOk [Summ] (E : Nat → Value) (G : Nat) (w0 : World) (P : Program) : Prop :=
  ∀ {ρ : Rho} {h : Heap} {w : World} {f : Nat} {args : List AV} {v : AV} {vals : List Value}, HeapR E G w0 ρ h w → Summ.sm P h f args = some v → F2 (VR E ρ) args vals →
    Calls P f ⟨vals⟩ w (fun e w' => ∃ x, e = .returned x ∧ (∀ ρ' : Rho, VR E ρ' v x) ∧ Below w.heap.size w w')

theorem stepR_valF {b : Frame} {a : Act} {k : List Item} {cs : List Frame} {ops : Array Oper} {i : Nat} {rest : List Nat} {o : Oper} (ho : ops[i]? = some o) (hw : Region.wanted o (yielded ops a.tmps) = true) (hnd : ∀ c, o.op ≠ .defer c) {r : Next} {x : Value} {w' : World}
    (hr : (execOp a.eval o).run P w = .ok r w') (hx : r = .value x ∨ (r = .skip ∧ x = Go.undef)) :
    step P (lone (b.atR a (.inRegion ops (i :: rest) :: k)) cs w) = .next (lone ((b.atR a (.inRegion ops (i :: rest) :: k)).finish x) cs w') := by
  rw [stepR_val ho hw hnd hr hx, Frame.finish_atR, ho]
  rfl

/-- The operation at a frame's head, which waits for it. -/
theorem oper_sound [Summ] (hE : ∀ i, (E i).oneCell' = true) (hS : SumOk E G w0 P) (hr : HeapR E G w0 ρ h w) (hlo : lo ≤ h.next) {acs : List AFr} {cs : List Frame} (hst : StackR E P g ρ h lo acs cs) {af : AFr} {b : Frame} {a : Act} {ops : Array Oper} {i : Nat} {rest : List Nat} {k : List Item} {o : Oper}
    (hw : WaitR E P g ρ h lo h.next af b a (.inRegion ops (i :: rest) :: k)) (hbot : bottomFn af acs = f) (ho : ops[i]? = some o) (hwant : Region.wanted o (yielded ops a.tmps) = true) {vals : List AV} (hvals : F2 (VR E ρ) vals (o.op.operands.toList.map a.eval))
    {r : Act1} (hs : operA P h o vals = some r) :
    match r with
    | .val v h' => ∀ af', finishA af v = some af' → OutR E G w0 P g base f (lone (b.atR a (.inRegion ops (i :: rest) :: k)) (cs ++ base) w) (.next ⟨af', acs, h'⟩)
    | .enter fr => OutR E G w0 P g base f (lone (b.atR a (.inRegion ops (i :: rest) :: k)) (cs ++ base) w) (.next ⟨fr, af :: acs, h⟩)
    | .ret _ _ v => ∀ af', finishA af v = some af' → OutR E G w0 P g base f (lone (b.atR a (.inRegion ops (i :: rest) :: k)) (cs ++ base) w) (.next ⟨af', acs, h⟩) := by
  obtain ⟨hact, hnd⟩ := operA_sound hE hr hs hvals
  cases r with
  | val v h' =>
    intro af' hfin
    obtain ⟨r, x, w', ρ', h1, h2, h3, h4, h5⟩ := hact
    have hw' : WaitR E P g ρ' h' lo h.next af b a (.inRegion ops (i :: rest) :: k) := hw.ext (h4.toN (Nat.le_refl _))
    obtain ⟨a', todo', q1, q2, q3⟩ := finish_sound hw' hfin h5
    refine ⟨_, .one (stepR_valF ho hwant hnd h1 h2), ?_⟩
    rw [q1]
    exact ⟨ρ', b, a', todo', cs, w', lo, rfl, h3, Nat.le_trans hlo h4.next, q2.widen h4.next, hst.ext (h4.toN hlo), by rw [← hbot]; exact bottomFn_congr q3 _⟩
  | enter fr =>
    obtain ⟨r, nf, b', a', todo', h1, h2, rfl, h4⟩ := hact
    refine ⟨_, .one (stepR_enters ho hwant hnd h1 h2), ?_⟩
    exact ⟨ρ, b', a', todo', b.atR a (.inRegion ops (i :: rest) :: k) :: cs, w, h.next, rfl, hr, Nat.le_refl _, ⟨h4.base, .inl ⟨h4.todo, h4.env⟩⟩, .cons hlo hw hst, hbot⟩
  | ret f' args v =>
    intro af' hfin
    obtain ⟨r, vals', h1, h2, h3, h4⟩ := hact
    obtain ⟨e, w', fr', hpost, k1, _, k3⟩ := hS hr h4 h3 (b.atR a (.inRegion ops (i :: rest) :: k) :: (cs ++ base))
    obtain ⟨x, rfl, hx, hbel⟩ := hpost
    refine OutR.steps (.one (stepR_enters ho hwant hnd h1 h2)) (OutR.steps k1 ⟨_, .one (step_leave_returned k3), ?_⟩)
    exact resume_sound (.cons hlo hw hst) (Nat.le_refl _) (hr.later hbel) (hx ρ) hfin hbot

theorem forkL_mem {s : ASt} {dst : Option Nat} {todo : List AItem} : ∀ {l : List (AV × Heap)} {r : List ASt}, forkL s dst todo l = some r → ∀ x ∈ l, ∃ e, putEnv s.fr.size s.fr.env dst x.1 = some e ∧ (⟨{ s.fr with env := e, todo := todo }, s.cs, x.2⟩ : ASt) ∈ r
  | [], _, _, x, hx => by cases hx
  | y :: l, r, h, x, hx => by
    unfold forkL at h
    split at h
    · rename_i e he
      split at h
      · rename_i r' hr'
        simp only [Option.some.injEq] at h
        subst h
        rcases List.mem_cons.1 hx with rfl | hx
        · exact ⟨e, he, List.mem_cons_self ..⟩
        · obtain ⟨e', h1, h2⟩ := forkL_mem hr' x hx
          exact ⟨e', h1, List.mem_cons_of_mem _ h2⟩
      · cases h
    · cases h

/-- The next entry of a map at a frame's head: one of those that may come comes. -/
theorem fork_sound {s : ASt} {cs : List Frame} {b : Frame} {a : Act} {ops : Array Oper} {i : Nat} {o : Oper} {rest : List Oper} {kk : List AItem} {k : List Item} (hr : HeapR E G w0 ρ s.h w) (hlo : lo ≤ s.h.next) (hst : StackR E P g ρ s.h lo s.cs cs)
    (hb : BaseR ρ s.fr b a) (he : EnvR E ρ s.fr.env a.tmps) (hbot : bottomFn s.fr s.cs = f) (ho : ops[i]? = some o) (hwant : Region.wanted o (yielded ops a.tmps) = true) {vals : List AV} (hvals : F2 (VR E ρ) vals (o.op.operands.toList.map a.eval))
    (hrest : ItemR ρ (.reg ops rest) (.inRegion ops (List.range' (i + 1) (ops.size - (i + 1))))) (hk : F2 (ItemR ρ) kk k) :
    OutR E G w0 P g base f (lone (b.atR a (.inRegion ops (i :: List.range' (i + 1) (ops.size - (i + 1))) :: k)) (cs ++ base) w) (forkA s o vals (.reg ops rest :: kk)) := by
  unfold forkA
  split
  · rename_i it hnx
    split
    · rename_i l hl
      split
      · rename_i r hr'
        obtain ⟨dst, op, ty, pos, after, guard⟩ := o
        cases op <;> simp only [isNext, Bool.false_eq_true] at hnx
        case next iter isString =>
          cases isString with
          | true => cases hnx
          | false =>
          have hv' : F2 (VR E ρ) [it] [a.eval iter] := by simpa [Op.operands] using hvals
          cases hv' with
          | cons hv _ =>
            obtain ⟨x, hx, v, w', ρ', g1, g2, g3, g4⟩ := nexts_sound (P := P) hr hl hv ty
            obtain ⟨e, he', hmem⟩ := forkL_mem hr' x hx
            have hrun : (execOp a.eval { dst := dst, op := .next iter false, type := ty, pos := pos, after := after, guard := guard }).run P w = .ok (.value v) w' := by
              show (do pure (Next.value (← Instr.next (a.eval iter) false ty)) : Sem Next).run P w = _
              simp only [Sem.run_bind, g1, Result.andThen_ok, Sem.run_pure]
            refine ⟨_, _, hmem, .one (stepR_val ho hwant (fun c hc => by cases hc) hrun (.inl rfl)), ?_⟩
            rw [← hb.size] at he'
            refine ⟨ρ', b, a.put dst v, _, cs, w', lo, rfl, g2, Nat.le_trans hlo g3.next, ⟨⟨hb.fn, hb.kind, by rw [put_size]; exact hb.size, by rw [put_defers]; exact hb.defers.imp fun _ _ hm => hm.mono g3.le, hb.round.mono g3.le⟩, .inl ⟨.cons (hrest.mono g3.le) (hk.imp fun _ _ hm => hm.mono g3.le), EnvR.put (he.mono g3.le) g4 he'⟩⟩, hst.ext (g3.toN hlo), ?_⟩
            rw [← hbot]
            cases s.cs <;> rfl
      · trivial
    · trivial
  · trivial

theorem reg_head {ops : Array Oper} {o : Oper} {rest : List Oper} {y : Item} (hi : ItemR ρ (.reg ops (o :: rest)) y) : ∃ n, ops[n]? = some o ∧ y = .inRegion ops (n :: List.range' (n + 1) (ops.size - (n + 1))) ∧ ItemR ρ (.reg ops rest) (.inRegion ops (List.range' (n + 1) (ops.size - (n + 1)))) := by
  obtain ⟨n, hn, rfl, hrest⟩ := hi
  have hlt : n < ops.size := by
    rcases Nat.lt_or_ge n ops.size with hl | hl
    · exact hl
    · rw [List.drop_of_length_le (by simp; exact hl)] at hrest; cases hrest
  have hdrop : ops.toList.drop n = ops[n] :: ops.toList.drop (n + 1) := by
    rw [List.drop_eq_getElem_cons (by simp; exact hlt)]; simp
  rw [hdrop] at hrest
  simp only [List.cons.injEq] at hrest
  obtain ⟨ho, hre⟩ := hrest
  refine ⟨n, by rw [ho]; simp [hlt], ?_, ⟨n + 1, hlt, rfl, hre⟩⟩
  rw [show ops.size - n = (ops.size - (n + 1)) + 1 from by omega, List.range'_succ]
end

end Go.AM
namespace Go.AM
open Go.RowKit (Below)
variable {E : Nat → Value} {G : Nat} {w0 : World} {ρ : Rho} {h : Heap} {w : World} {P : Program}
variable {g lo hi : Nat}

section
variable {base : List Frame} {f : Nat}

/-! ### A region that draws -/
theorem kind_light {P : Program} {o : Op} (hl : isHeavy P o = false) : kindOf P o = .read ∨ kindOf P o = .make := by
  unfold isHeavy at hl
  split at hl
  · rename_i hk; exact .inl hk
  · rename_i hk; exact .inr hk
  · cases hl

theorem dreg_sound [Summ] (hE : ∀ i, (E i).oneCell' = true) (hS : SumOk E G w0 P) (hg : ∀ n, Nat.testBit g n = true → Nat.testBit G n = true) {s : ASt} {cs : List Frame} {b : Frame} {a : Act} (hr : HeapR E G w0 ρ s.h w) (hlo : lo ≤ s.h.next) (hb : BaseR ρ s.fr b a) (hst : StackR E P g ρ s.h lo s.cs cs) (hbot : bottomFn s.fr s.cs = f)
    {d : DReg} {k : List AItem} {k' : List Item} {l : List Nat} {gh : Nat → Option Nat} {ls : Array Bool} (hk : F2 (ItemR ρ) k k') (hd : DrawR E P g ρ s.h lo s.h.next gh d s.fr.env a.tmps ls l) :
    OutR E G w0 P g base f (lone (b.atR a (.inRegion d.ops l :: k')) (cs ++ base) w) (dregA P g s d k) := by
  have hbw : ∀ todo', bottomFn { s.fr with todo := todo' } s.cs = f := fun _ => by
    rw [← hbot]
    cases s.cs <;> rfl
  unfold dregA
  split
  · rename_i ht
    cases hq : stillOk P s.h d.pend with
    | false => trivial
    | true =>
      obtain ⟨a', w', ρ', s1, s2, s3, s4, s5, s6⟩ := DrawR.catchAll hE hg (Nat.le_refl _) hq ht b k' (cs ++ base) l ρ w a ls hr hd
      refine ⟨_, s1, ?_⟩
      refine StR.same hlo hst hbot s2 s3 ⟨⟨hb.fn, hb.kind, by rw [s5]; exact hb.size, by rw [s4]; exact hb.defers.imp fun _ _ hm => hm.mono s3.le, hb.round.mono s3.le⟩, .inl ⟨hk.imp fun _ _ hm => hm.mono s3.le, s6⟩⟩ rfl
  · rename_i ht0 ht1 ht
    split
    · rename_i i m o wanted rest hpick
      obtain ⟨pre, post, p1, p2, p3, p4, p5⟩ := pickLight_spec hpick
      simp only at p1 p2 p3 p4 p5
      cases wanted with
      | true =>
        simp only [cond_true]
        split
        · rename_i vals hvals
          split
          · rename_i v h' hop
            split
            · rename_i e he
              refine ⟨_, .refl _ _, ?_⟩
              rw [← hb.size] at he
              have hheavy := p5 rfl
              unfold operA at hop
              rcases kind_light hheavy with hkd | hkd
              · rw [hkd] at hop
                simp only at hop
                split at hop
                · rename_i v' hv'
                  simp only [Option.some.injEq, Act1.val.injEq] at hop
                  obtain ⟨rfl, rfl⟩ := hop
                  have hnew := hd.reckon p1 p3 he (h' := s.h) (hi' := s.h.next) (gh' := gh) (pend' := bif mayChange o.op && (match kindOf P o.op with | .read => true | _ => false) then ⟨i, o, vals, v'⟩ :: d.pend else d.pend)
                    (fun _ _ => rfl) hd.ghost hd.inj (fun p hp => by
                      cases (mayChange o.op && (match kindOf P o.op with | .read => true | _ => false)) with
                      | true => exact List.mem_cons_of_mem _ hp
                      | false => exact hp) (fun _ _ _ _ => rfl)
                    (.inr ⟨p4, vals, hvals, by
                      cases hmc : mayChange o.op with
                      | true =>
                        refine .inl ⟨hkd, rfl, ?_⟩
                        rw [hkd]
                        exact List.mem_cons_self ..
                      | false => exact .inr (.inl ⟨hkd, fun h2 => by rw [readA_still hmc h2 s.h]; exact hv'⟩)⟩)
                  rw [← p2] at hnew
                  exact StR.same hlo hst hbot hr (ExtN.refl _ _ _) ⟨⟨hb.fn, hb.kind, hb.size, hb.defers, hb.round⟩, .inr ⟨_, k, k', l, gh, ls, rfl, rfl, hk, hnew⟩⟩ rfl
                · cases hop
              · rw [hkd] at hop
                simp only at hop
                split at hop
                · rename_i n hn
                  cases hlim : Nat.blt s.h.next LIMIT <;> rw [hlim] at hop <;> simp only [cond_true, cond_false, reduceCtorEq, Option.some.injEq, Act1.val.injEq] at hop
                  obtain ⟨rfl, rfl⟩ := hop
                  have hlim' : s.h.next < LIMIT := by simpa [Nat.blt_eq] using hlim
                  obtain ⟨g1, g2⟩ := hr.pushGhost hlim' n.obj
                  have hfresh := hr.fresh
                  have hnew := hd.reckon p1 p3 he (h' := s.h.push n.obj) (hi' := s.h.next + 1) (gh' := fun j => if j = i then some s.h.next else gh j) (pend' := bif mayChange o.op && (match kindOf P o.op with | .read => true | _ => false) then ⟨i, o, vals, n.val s.h.next⟩ :: d.pend else d.pend)
                    (fun j hj => if_neg hj) (fun j c hc => by
                      by_cases hj : j = i
                      · rw [if_pos hj] at hc
                        simp only [Option.some.injEq] at hc; subst hc
                        exact ⟨hlo, Nat.lt_succ_self _⟩
                      · rw [if_neg hj] at hc
                        have := hd.ghost j c hc
                        exact ⟨this.1, by omega⟩) (fun j j' c hc hc' => by
                      by_cases hj : j = i
                      · by_cases hj' : j' = i
                        · rw [hj, hj']
                        · rw [if_pos hj] at hc; rw [if_neg hj'] at hc'
                          simp only [Option.some.injEq] at hc; subst hc
                          have := (hd.ghost j' _ hc').2
                          omega
                      · rw [if_neg hj] at hc
                        by_cases hj' : j' = i
                        · rw [if_pos hj'] at hc'
                          simp only [Option.some.injEq] at hc'; subst hc'
                          have := (hd.ghost j _ hc).2
                          omega
                        · rw [if_neg hj'] at hc'
                          exact hd.inj j j' c hc hc') (fun p hp => by
                      cases (mayChange o.op && (match kindOf P o.op with | .read => true | _ => false)) with
                      | true => exact List.mem_cons_of_mem _ hp
                      | false => exact hp) (fun j c hc _ => by
                      have := (hd.ghost j c hc).2
                      rw [Heap.at_push _ _ _ hlim', if_neg (by omega)])
                    (.inr ⟨p4, vals, hvals, .inr (.inr ⟨hkd, n, s.h.next, hn, rfl, if_pos rfl, hfresh, by rw [Heap.at_push _ _ _ hlim', if_pos rfl]⟩)⟩)
                  rw [← p2] at hnew
                  exact StR.same hlo hst hbot g1 (g2.toN hlo) ⟨⟨hb.fn, hb.kind, hb.size, hb.defers, hb.round⟩, .inr ⟨_, k, k', l, _, ls, rfl, rfl, hk, hnew⟩⟩ rfl
                · cases hop
            · trivial
          · trivial
        · trivial
      | false =>
        simp only [cond_false]
        split
        · rename_i e he
          refine ⟨_, .refl _ _, ?_⟩
          rw [← hb.size] at he
          have hnew := hd.reckon p1 p3 he (h' := s.h) (hi' := s.h.next) (gh' := gh) (pend' := d.pend) (fun _ _ => rfl) hd.ghost hd.inj (fun _ hp => hp) (fun _ _ _ _ => rfl) (.inl ⟨p4, rfl⟩)
          rw [← p2] at hnew
          exact StR.same hlo hst hbot hr (ExtN.refl _ _ _) ⟨⟨hb.fn, hb.kind, hb.size, hb.defers, hb.round⟩, .inr ⟨_, k, k', l, gh, ls, rfl, rfl, hk, hnew⟩⟩ rfl
        · trivial
    · split
      · rename_i i m o rest hti
        cases hq : (isHeavy P o.op && doneAll d.done m && noneReady d.done rest && stillOk P s.h d.pend) with
        | false => trivial
        | true =>
          simp only [Bool.and_eq_true] at hq
          obtain ⟨⟨⟨q1, q2⟩, q3⟩, q4⟩ := hq
          simp only [cond_true]
          split
          · rename_i hwa
            split
            · rename_i vals hvals
              obtain ⟨l', a', w', ρ', ls', s1, s2, s3, s4, s5, s6⟩ := DrawR.catchTo hE hg (Nat.le_refl _) q4 hti q3 b k' (cs ++ base) l ρ w a ls hr hd
              have hlook := s6.looks hti q2
              obtain ⟨ho, hmk, _⟩ := s6.mark (pre := []) hti q2
              have hrd : i ∈ Region.ready .any d.ops ls' := by cases s6.lin with | cons h _ => exact h
              have hwait : WaitR E P g ρ' s.h lo s.h.next { s.fr with todo := .dreg { d with pend := dropDone m d.pend } :: k } b a' (.inRegion d.ops (i :: l') :: k') :=
                ⟨⟨hb.fn, hb.kind, by rw [s5]; exact hb.size, by rw [s4]; exact hb.defers.imp fun _ _ hm => hm.mono s3.le, hb.round.mono s3.le⟩,
                  .inr ⟨{ d with pend := dropDone m d.pend }, k, k', i, m, o, rest, l', gh, ls', rfl, rfl, hk.imp fun _ _ hm => hm.mono s3.le, s6.drop (fun j hj => s6.ahead hrd (by rw [← hmk]; exact hj)), hti, q2⟩⟩
              have hev := evalAll_sound (a := a') hg s2 (fun t ht => hlook t (mem_looksAt ht)) hvals
              split
              · rename_i v h' hop
                have hos := oper_sound (base := base) (f := f) hE hS s2 hlo (hst.ext s3) hwait (hbw _) ho (wanted_sound hlook hwa) hev hop
                split
                · rename_i fr hfin
                  exact OutR.steps s1 (hos fr hfin)
                · trivial
              · rename_i fr hop
                have hos := oper_sound (base := base) (f := f) hE hS s2 hlo (hst.ext s3) hwait (hbw _) ho (wanted_sound hlook hwa) hev hop
                exact OutR.steps s1 hos
              · rename_i f' args v hop
                have hos := oper_sound (base := base) (f := f) hE hS s2 hlo (hst.ext s3) hwait (hbw _) ho (wanted_sound hlook hwa) hev hop
                split
                · rename_i fr hfin
                  exact OutR.steps s1 (hos fr hfin)
                · trivial
              · trivial
            · trivial
          · trivial
      · trivial
end

end Go.AM
namespace Go.AM
open Go.RowKit (Below)
variable {E : Nat → Value} {G : Nat} {w0 : World} {ρ : Rho} {h : Heap} {w : World} {P : Program}
variable {g lo hi : Nat}

section
variable {base : List Frame} {f : Nat}

theorem run_endLoop {l : Nat} {r : Loop} (hb : w.heap[l]? = some (.loop r)) (hs : (r.state == .busy) = false) : (Instr.endLoop l).run P w = .ok r.pending { w with heap := w.heap.setIfInBounds l (.loop { r with state := .exhausted }) } := by
  unfold Instr.endLoop
  simp only [Sem.run_bind, run_getLoop hb, Result.andThen_ok, hs, Bool.false_eq_true, if_false, run_setObj_ok hb (rfl : isCells (.loop _) = false), Sem.run_pure]

theorem run_beginRound {l : Nat} {r : Loop} (hb : w.heap[l]? = some (.loop r)) (hs : r.state = .ready) : (Instr.beginRound l).run P w = .ok () { w with heap := w.heap.setIfInBounds l (.loop { r with state := .busy }) } := by
  unfold Instr.beginRound
  simp only [Sem.run_bind, run_getLoop hb, Result.andThen_ok, run_setObj_ok hb (rfl : isCells (.loop _) = false), hs, Sem.run_pure]

/-- The one call of a range over a function. -/
theorem stepR_range {b : Frame} {a : Act} {k : List Item} {cs : List Frame} {x : Operand} {ps : Array Tmp} {assign body : Code} {l : Nat} {mark : List Deferred} {w₁ : World} {r : Next} {nf : Frame}
    (he : (Instr.enterLoop b.fn a.tmps ps assign body b.roundOf).run P w = .ok (l, mark) w₁) (hc : (callV (a.eval x) #[.func (.yield l) #[] #[]]).run P w₁ = .ok r w₁) (hx : Enters P r nf) :
    step P (lone (b.atR a (.code (.rangeFunc x ps assign body) :: k)) cs w) = .next (lone nf (b.atR { a with defers := mark ++ a.defers } (.inRangeFunc l :: k) :: cs) w₁) := by
  have hev := Frame.eval_atR b { a with defers := mark ++ a.defers } (.inRangeFunc l :: k)
  simp only [Frame.atR] at hev
  have hcall : (do let d ← resolve ({ tmps := a.tmps, defers := mark ++ a.defers } : Act).eval { callee := .value x, args := #[.const (.func (.yield l) #[] #[])], argTypes := #[] } 0; invoke d.target d.args : Sem Next).run P w₁ = .ok r w₁ := by
    have hx : a.eval x = ({ tmps := a.tmps, defers := mark ++ a.defers } : Act).eval x := by cases x <;> rfl
    rw [hx] at hc
    have hm : (#[Operand.const (.func (.yield l) #[] #[])]).map ({ tmps := a.tmps, defers := mark ++ a.defers } : Act).eval = #[.func (.yield l) #[] #[]] := by simp [Act.eval]
    unfold resolve
    simp only [hm]
    exact hc
  rcases hx with ⟨f, args, rfl, rfl⟩ | ⟨l', f, tmps, as, bd, rfl, rfl⟩
  · exact step_lone_go (by
      simp only [stepG, stepG.exec, Frame.atR, Sem.runT_eq, he, GStep.bare_after, stepG.apply, hev, hcall, if_true]
      rfl)
  · exact step_lone_go (by
      simp only [stepG, stepG.exec, Frame.atR, Sem.runT_eq, he, GStep.bare_after, stepG.apply, hev, hcall, if_true]
      rfl)

theorem enters_sound {s : ASt} {cs : List Frame} {ρ' : Rho} {h' : Heap} {w' : World} (hr : HeapR E G w0 ρ' h' w') (hlo : lo ≤ h'.next) (hst : StackR E P g ρ' h' lo s.cs cs) {caller fr : AFr} {cb : Frame} {ca : Act} {ctodo : List Item} (hw : WaitR E P g ρ' h' lo h'.next caller cb ca ctodo)
    (hbot : bottomFn caller s.cs = f) {b : Frame} {a : Act} {todo : List Item} (hn : NewR E ρ' fr b a todo) : StR E G w0 P g base f ⟨fr, caller :: s.cs, h'⟩ (lone (b.atR a todo) (cb.atR ca ctodo :: (cs ++ base)) w') :=
  ⟨ρ', b, a, todo, cb.atR ca ctodo :: cs, w', h'.next, rfl, hr, Nat.le_refl _, ⟨hn.base, .inl ⟨hn.todo, hn.env⟩⟩, .cons hlo hw hst, hbot⟩

theorem rangeFunc_sound [Summ] {s : ASt} {cs : List Frame} {b : Frame} {a : Act} {x : Operand} {params : Array Tmp} {assign body : Code} {k : List AItem} {k' : List Item} (hg : ∀ n, Nat.testBit g n = true → Nat.testBit G n = true) (hr : HeapR E G w0 ρ s.h w) (hlo : lo ≤ s.h.next) (hb : BaseR ρ s.fr b a)
    (hk : F2 (ItemR ρ) k k') (he : EnvR E ρ s.fr.env a.tmps) (hst : StackR E P g ρ s.h lo s.cs cs) (hbot : bottomFn s.fr s.cs = f) :
    OutR E G w0 P g base f (lone (b.atR a (.code (.rangeFunc x params assign body) :: k')) (cs ++ base) w) (rangeA P g s x params assign body k) := by
  have hbw : ∀ todo' ds', bottomFn { s.fr with todo := todo', defers := ds' } s.cs = f := fun _ _ => by
    rw [← hbot]
    cases s.cs <;> rfl
  have hpar : (⟨params.toList⟩ : Array Tmp) = params := rfl
  unfold rangeA
  split
  · rename_i fv hfv hrn
    have hro : b.roundOf = none := by have := hb.round; rw [hrn] at this; exact this
    cases hlim : Nat.blt (s.h.next + 1) LIMIT with
    | false => trivial
    | true =>
      have hlim' : s.h.next + 1 < LIMIT := by simpa [Nat.blt_eq] using hlim
      simp only [cond_true]
      obtain ⟨r1, e1⟩ := hr.push (by omega) (a := .dfr true) (o := .deferred (some [])) (base := 0) (size := 0) rfl
      have hnx : (s.h.push (.dfr true)).next = s.h.next + 1 := rfl
      have hsz1 : (w.alloc (.deferred (some []))).heap.size = w.heap.size + 1 := by show (w.heap.push _).size = _; simp
      have hdf : (ρ.add s.h.next ⟨w.heap.size, 0, 0⟩) s.h.next = some ⟨w.heap.size, 0, 0⟩ := Rho.add_self
      obtain ⟨r2, e2⟩ := r1.push (by rw [hnx]; exact hlim') (a := .loop .ready none s.fr.fn s.fr.env s.fr.size params.toList assign body s.h.next)
        (o := .loop ⟨.ready, none, b.fn, a.tmps, params, assign, body, w.heap.size⟩) (base := 0) (size := 0)
        ⟨a.tmps, w.heap.size, by rw [hb.fn], hb.size, fun t => VR.mono (Rho.le_trans e1.le (Rho.le_add r1.fresh)) (he t), ⟨w.heap.size, 0, 0⟩, Rho.le_add r1.fresh _ _ hdf, rfl⟩
      rw [hnx, hsz1] at r2 e2
      have hle : ρ.le ((ρ.add s.h.next ⟨w.heap.size, 0, 0⟩).add (s.h.next + 1) ⟨w.heap.size + 1, 0, 0⟩) := Rho.le_trans e1.le e2.le
      split
      · rename_i fr' hcall
        have hfv' := VR.mono hle (evalA_sound (a := a) hg hr (fun t _ => he t) hfv)
        have hact := callA_sound (P := P) r2 hcall hfv' (vs := [.func (.yield (w.heap.size + 1)) #[] #[]]) (.cons ⟨⟨w.heap.size + 1, 0, 0⟩, Rho.add_self, rfl⟩ .nil)
        obtain ⟨r, nf, b', a', todo', h1, h2, rfl, h4⟩ := hact
        have hent : (Instr.enterLoop b.fn a.tmps params assign body b.roundOf).run P w = .ok (w.heap.size + 1, [{ target := .collected w.heap.size, args := #[] }])
            ((w.alloc (.deferred (some []))).alloc (.loop ⟨.ready, none, b.fn, a.tmps, params, assign, body, w.heap.size⟩)) := by
          rw [hro]
          unfold Instr.enterLoop
          simp only [Sem.run_bind, run_newObj, Result.andThen_ok, Sem.run_pure, Array.size_push]
          rfl
        refine ⟨_, .one (stepR_range hent h1 h2), ?_⟩
        have hitem : ItemR ((ρ.add s.h.next ⟨w.heap.size, 0, 0⟩).add (s.h.next + 1) ⟨w.heap.size + 1, 0, 0⟩) (.inRF (s.h.next + 1)) (.inRangeFunc (w.heap.size + 1)) := ⟨_, Rho.add_self, rfl⟩
        have hwait : WaitR E P g ((ρ.add s.h.next ⟨w.heap.size, 0, 0⟩).add (s.h.next + 1) ⟨w.heap.size + 1, 0, 0⟩) ((s.h.push (.dfr true)).push (.loop .ready none s.fr.fn s.fr.env s.fr.size params.toList assign body s.h.next)) lo
            ((s.h.push (.dfr true)).push (.loop .ready none s.fr.fn s.fr.env s.fr.size params.toList assign body s.h.next)).next { s.fr with todo := .inRF (s.h.next + 1) :: k, defers := s.h.next :: s.fr.defers } b
            { a with defers := [{ target := .collected w.heap.size, args := #[] }] ++ a.defers } (.inRangeFunc (w.heap.size + 1) :: k') :=
          ⟨⟨hb.fn, hb.kind, hb.size, .cons ⟨_, Rho.le_add r1.fresh _ _ hdf, rfl⟩ (hb.defers.imp fun _ _ hm => hm.mono hle), hb.round.mono hle⟩, .inl ⟨.cons hitem (hk.imp fun _ _ hm => hm.mono hle), he.mono hle⟩⟩
        exact enters_sound r2 (Nat.le_trans hlo (Nat.le_trans e1.next e2.next)) ((hst.ext (e1.toN hlo)).ext (e2.toN (by rw [hnx]; omega))) hwait (hbw _ _) h4
      · trivial
  · rename_i fv around hfv hrn
    have hrd := hb.round
    rw [hrn] at hrd
    obtain ⟨lc, el, hro⟩ := hrd
    split
    · rename_i st pending fn env size ps as bd df hat
      obtain ⟨tmps, dl, g1, g2, g3, l', el', hdl⟩ := hr.loopAt el hat
      cases hlim : Nat.blt s.h.next LIMIT with
      | false => trivial
      | true =>
        have hlim' : s.h.next < LIMIT := by simpa [Nat.blt_eq] using hlim
        simp only [cond_true]
        obtain ⟨r2, e2⟩ := hr.push hlim' (a := .loop .ready none s.fr.fn s.fr.env s.fr.size params.toList assign body df)
          (o := .loop ⟨.ready, none, b.fn, a.tmps, params, assign, body, dl⟩) (base := 0) (size := 0)
          ⟨a.tmps, dl, by rw [hb.fn], hb.size, fun t => VR.mono (Rho.le_add hr.fresh) (he t), l', Rho.le_add hr.fresh _ _ el', hdl⟩
        have hle := e2.le
        split
        · rename_i fr' hcall
          have hfv' := VR.mono hle (evalA_sound (a := a) hg hr (fun t _ => he t) hfv)
          have hact := callA_sound (P := P) r2 hcall hfv' (vs := [.func (.yield w.heap.size) #[] #[]]) (.cons ⟨⟨w.heap.size, 0, 0⟩, Rho.add_self, rfl⟩ .nil)
          obtain ⟨r, nf, b', a', todo', h1, h2, rfl, h4⟩ := hact
          have hent : (Instr.enterLoop b.fn a.tmps params assign body b.roundOf).run P w = .ok (w.heap.size, []) (w.alloc (.loop ⟨.ready, none, b.fn, a.tmps, params, assign, body, dl⟩)) := by
            rw [hro]
            unfold Instr.enterLoop
            simp only [Sem.run_bind, run_getLoop g1, run_newObj, Result.andThen_ok, Sem.run_pure]
            rfl
          refine ⟨_, .one (stepR_range hent h1 h2), ?_⟩
          have hitem : ItemR (ρ.add s.h.next ⟨w.heap.size, 0, 0⟩) (.inRF s.h.next) (.inRangeFunc w.heap.size) := ⟨_, Rho.add_self, rfl⟩
          have hwait : WaitR E P g (ρ.add s.h.next ⟨w.heap.size, 0, 0⟩) (s.h.push (.loop .ready none s.fr.fn s.fr.env s.fr.size params.toList assign body df)) lo
              (s.h.push (.loop .ready none s.fr.fn s.fr.env s.fr.size params.toList assign body df)).next { s.fr with todo := .inRF s.h.next :: k } b { a with defers := [] ++ a.defers } (.inRangeFunc w.heap.size :: k') :=
            ⟨⟨hb.fn, hb.kind, hb.size, hb.defers.imp fun _ _ hm => hm.mono hle, hb.round.mono hle⟩, .inl ⟨.cons hitem (hk.imp fun _ _ hm => hm.mono hle), he.mono hle⟩⟩
          exact enters_sound r2 (Nat.le_trans hlo e2.next) (hst.ext (e2.toN hlo)) hwait (hbw _ _) h4
        · trivial
    · trivial
  · trivial

theorem step_sound [Summ] (hE : ∀ i, (E i).oneCell' = true) (hS : SumOk E G w0 P) (hg : ∀ n, Nat.testBit g n = true → Nat.testBit G n = true) (hmix : P.follows .mixedOrders = true) {s : ASt} {m : Machine} (hs : StR E G w0 P g base f s m) : OutR E G w0 P g base f m (stepA P g s) := by
  obtain ⟨ρ, b, a, todo, cs, w, lo, rfl, hr, hlo, hf, hst, hbot⟩ := hs
  have hb := hf.base
  -- on in the same frame
  have hgoE : ∀ {todo' : List AItem} {env' : T AV} {a' : Act} {todo'' : List Item}, step P (lone (b.atR a todo) (cs ++ base) w) = .next (lone (b.atR a' todo'') (cs ++ base) w) → F2 (ItemR ρ) todo' todo'' → EnvR E ρ env' a'.tmps → a'.tmps.size = a.tmps.size → a'.defers = a.defers →
      OutR E G w0 P g base f (lone (b.atR a todo) (cs ++ base) w) (.next { s with fr := { s.fr with env := env', todo := todo' } }) := by
    intro todo' env' a' todo'' h1 h2 h3 h4 h5
    exact ⟨_, .one h1, StR.same hlo hst hbot hr (ExtN.refl _ _ _) ⟨⟨hb.fn, hb.kind, by rw [h4]; exact hb.size, by rw [h5]; exact hb.defers, hb.round⟩, .inl ⟨h2, h3⟩⟩ rfl⟩
  have hgo : ∀ {todo' : List AItem} {todo'' : List Item}, step P (lone (b.atR a todo) (cs ++ base) w) = .next (lone (b.atR a todo'') (cs ++ base) w) → F2 (ItemR ρ) todo' todo'' → EnvR E ρ s.fr.env a.tmps →
      OutR E G w0 P g base f (lone (b.atR a todo) (cs ++ base) w) (goA s todo') := fun h1 h2 h3 => hgoE h1 h2 h3 rfl rfl
  rcases hf.run with ⟨hi, he⟩ | ⟨d, k, k', l, gh, ls, hd1, rfl, hd3, hd4⟩
  rotate_left
  · have : stepA P g s = dregA P g s d k := by unfold stepA; rw [hd1]; rfl
    rw [this]
    exact dreg_sound hE hS hg hr hlo hb hst hbot hd3 hd4
  unfold stepA
  generalize htodo : s.fr.todo = at_ at hi
  cases hi with
  | nil =>
    simp only
    exact leave_sound hr hlo hb he hst hbot (fun hro _ => stepR_end hro) (fun lb c cs' v w' hro hend => stepR_round_end hro hb.kind hend)
  | @cons x y k k' hx hk =>
    cases x with
    | inBlock i => obtain rfl := hx; exact hgo stepR_inBlock hk he
    | inScope c => obtain rfl := hx; exact hgo stepR_inScope hk he
    | inLoop c => obtain rfl := hx; exact hgo stepR_inLoop (.cons rfl (.cons rfl hk)) he
    | dreg d => exact hx.elim
    | inRF l => trivial
    | endRF l =>
      obtain ⟨lc, el, rfl⟩ := hx
      show OutR E G w0 P g base f _ (endA s l k)
      unfold endA
      split
      · rename_i st pending fn env size params assign body df hat
        obtain ⟨tmps, dl, g1, g2, g3, g4⟩ := hr.loopAt el hat
        cases hbz : isBusy st with
        | true => trivial
        | false =>
          simp only [cond_false]
          have hset := hr.set el (by rw [hat]; rfl) (by rw [hat]; rfl) (a := .loop .exhausted pending fn env size params assign body df) (o := .loop { (⟨st, pending, fn, tmps, ⟨params⟩, assign, body, dl⟩ : Loop) with state := .exhausted }) ⟨tmps, dl, rfl, g2, g3, g4⟩
          have hend := run_endLoop (P := P) g1 (by cases st <;> first | rfl | cases hbz)
          refine ⟨_, .one (stepR_endRangeFunc hend), ?_⟩
          refine StR.same hlo hst hbot hset.1 (hset.2.toN hlo) ⟨⟨hb.fn, hb.kind, hb.size, hb.defers, hb.round⟩, .inl ⟨?_, he⟩⟩ rfl
          cases pending with
          | none => exact hk
          | some c => exact .cons rfl hk
      · trivial
    | beginRound =>
      obtain rfl := hx
      show OutR E G w0 P g base f _ (beginA s k)
      unfold beginA
      split
      · rename_i l hl
        have hrd := hb.round
        rw [hl] at hrd
        obtain ⟨lc, el, hro⟩ := hrd
        split
        · rename_i st pending fn env size params assign body df hat
          obtain ⟨tmps, dl, g1, g2, g3, g4⟩ := hr.loopAt el hat
          cases hbz : isReady st with
          | false => trivial
          | true =>
            simp only [cond_true]
            have hset := hr.set el (by rw [hat]; rfl) (by rw [hat]; rfl) (a := .loop .busy pending fn env size params assign body df) (o := .loop { (⟨st, pending, fn, tmps, ⟨params⟩, assign, body, dl⟩ : Loop) with state := .busy }) ⟨tmps, dl, rfl, g2, g3, g4⟩
            have hbeg := run_beginRound (P := P) g1 (by cases st <;> first | rfl | cases hbz)
            refine ⟨_, .one (stepR_beginRound hro hbeg), ?_⟩
            exact StR.same hlo hst hbot hset.1 (hset.2.toN hlo) ⟨⟨hb.fn, hb.kind, hb.size, hb.defers, hb.round⟩, .inl ⟨hk, he⟩⟩ rfl
        · trivial
      · trivial
    | reg ops rest =>
      cases rest with
      | nil =>
        obtain ⟨n, hn, rfl, hrest⟩ := hx
        have hge : ops.size ≤ n := by
          have := congrArg List.length hrest
          simp at this
          omega
        have hz : ops.size - n = 0 := by omega
        have hs : step P (lone (b.atR a (.inRegion ops (List.range' n (ops.size - n)) :: k')) (cs ++ base) w) = .next (lone (b.atR a k') (cs ++ base) w) := by
          rw [hz]; exact stepR_region_end
        exact hgo hs hk he
      | cons o rest =>
        obtain ⟨n, ho, rfl, hnext⟩ := reg_head hx
        show OutR E G w0 P g base f _ (regA P g s ops (o :: rest) k)
        unfold regA
        simp only
        split
        · rename_i hw
          show OutR E G w0 P g base f _ (match putEnv s.fr.size s.fr.env o.dst .undef with
            | some e => .next { s with fr := { s.fr with env := e, todo := .reg ops rest :: k } }
            | none => .fail 28)
          split
          · rename_i e he'
            have hwant := wanted_sound (tmps := a.tmps) (fun t _ => he t) hw
            have hs := stepR_op_skip (P := P) (b := b) (a := a) (k := k') (cs := cs ++ base) (w := w) (ops := ops) (i := n) (rest := List.range' (n + 1) (ops.size - (n + 1))) (by rw [ho]; exact hwant)
            rw [ho] at hs
            rw [← hb.size] at he'
            exact hgoE hs (.cons hnext hk) (EnvR.put he VR.undef he') (put_size _ _ _) (put_defers _ _ _)
          · trivial
        · rename_i hw
          have hwant := wanted_sound (tmps := a.tmps) (fun t _ => he t) hw
          unfold wantA
          split
          · rename_i vals hvals
            have hev := evalAll_sound (a := a) hg hr (fun t _ => he t) hvals
            have hwait : WaitR E P g ρ s.h lo s.h.next s.fr b a (.inRegion ops (n :: List.range' (n + 1) (ops.size - (n + 1))) :: k') := ⟨hb, .inl ⟨by rw [htodo]; exact .cons hx hk, he⟩⟩
            split
            · rename_i v h' hop
              have hos := oper_sound (base := base) (f := f) hE hS hr hlo hst hwait hbot ho hwant hev hop
              show OutR E G w0 P g base f _ (match putEnv s.fr.size s.fr.env o.dst v with
                | some e => .next ⟨{ s.fr with env := e, todo := .reg ops rest :: k }, s.cs, h'⟩
                | none => .fail 28)
              split
              · rename_i e he'
                exact hos _ (by unfold finishA; rw [htodo]; simp only; rw [he'])
              · trivial
            · rename_i fr hop
              exact oper_sound (base := base) (f := f) hE hS hr hlo hst hwait hbot ho hwant hev hop
            · rename_i f' args v hop
              have hos := oper_sound (base := base) (f := f) hE hS hr hlo hst hwait hbot ho hwant hev hop
              show OutR E G w0 P g base f _ (match putEnv s.fr.size s.fr.env o.dst v with
                | some e => .next ⟨{ s.fr with env := e, todo := .reg ops rest :: k }, s.cs, s.h⟩
                | none => .fail 28)
              split
              · rename_i e he'
                exact hos _ (by unfold finishA; rw [htodo]; simp only; rw [he'])
              · trivial
            · exact fork_sound (base := base) (f := f) hr hlo hst hb he hbot ho hwant hev hnext hk
          · trivial
        · trivial
    | code c =>
      obtain rfl := hx
      cases c with
      | ret =>
        exact leave_sound hr hlo hb he hst hbot (fun hro _ => stepR_ret hro) (fun lb c cs' v w' hro hend => stepR_round_ret hro hb.kind hend)
      | skip => exact hgo stepR_skip hk he
      | label l => exact hgo stepR_label hk he
      | seq x y => exact hgo stepR_seq (.cons rfl (.cons rfl hk)) he
      | cond c x y =>
        show OutR E G w0 P g base f _ (condA g s c x y k)
        unfold condA
        split
        · rename_i t ht
          have hc := evalA_sound (a := a) hg hr (fun t _ => he t) ht
          have hc' : a.eval c = .bool t := hc
          refine hgo (stepR_cond hc') (.cons ?_ hk) he
          cases t <;> rfl
        · trivial
      | block id body => exact hgo stepR_block (.cons rfl (.cons rfl hk)) he
      | loop body => exact hgo stepR_loop (.cons rfl (.cons rfl hk)) he
      | scope body => exact hgo stepR_scope (.cons rfl (.cons rfl hk)) he
      | exit id =>
        obtain ⟨hs, hn⟩ := exitA_sound (id := id) hk
        show OutR E G w0 P g base f _ (exitCodeA P s id k)
        unfold exitCodeA
        split
        · rename_i r hr'
          obtain ⟨r', h1, h2⟩ := hs r hr'
          exact hgo (stepR_exit h1) h2 he
        · rename_i hr'
          exact leave_sound hr hlo hb he hst hbot (fun _ hj => by rcases hj with hj | hj <;> cases hj) (fun lb c cs' v w' hro hend => stepR_round_exit hro hb.kind (hn hr') hend)
      | goto l =>
        obtain ⟨hs, hn⟩ := gotoA_sound (l := l) hk
        show OutR E G w0 P g base f _ (gotoCodeA P s l k)
        unfold gotoCodeA
        split
        · rename_i r hr'
          obtain ⟨r', h1, h2⟩ := hs r hr'
          exact hgo (stepR_goto h1) h2 he
        · rename_i hr'
          exact leave_sound hr hlo hb he hst hbot (fun _ hj => by rcases hj with hj | hj <;> cases hj) (fun lb c cs' v w' hro hend => stepR_round_goto hro hb.kind (hn hr') hend)
      | region id ops draw =>
        cases draw with
        | false =>
          refine hgo stepR_region (.cons ⟨0, Nat.zero_le _, ?_, rfl⟩ hk) he
          rw [List.range_eq_range']; rfl
        | true =>
          show OutR E G w0 P g base f _ (bif dOk ops then goA s (.dreg ⟨ops, s.fr.env, dItems ops, 0, []⟩ :: k) else .fail 21)
          cases hok : dOk ops with
          | false => trivial
          | true =>
            simp only [cond_true]
            refine ⟨_, .one stepR_region_draw, ?_⟩
            rw [hmix]
            refine StR.same hlo hst hbot hr.drew (ExtN.refl _ _ _) ⟨⟨hb.fn, hb.kind, hb.size, hb.defers, hb.round⟩, .inr ⟨_, k, k', _, _, _, rfl, rfl, hk, DrawR.begin hok he _⟩⟩ rfl
      | rangeFunc x params assign body =>
        exact rangeFunc_sound (base := base) (f := f) hg hr hlo hb hk he hst hbot
      | refuse why => trivial

theorem run_sound [Summ] (hE : ∀ i, (E i).oneCell' = true) (hS : SumOk E G w0 P) (hg : ∀ n, Nat.testBit g n = true → Nat.testBit G n = true) (hmix : P.follows .mixedOrders = true) : ∀ (n : Nat) {s : ASt} {m : Machine}, StR E G w0 P g base f s m → OutR E G w0 P g base f m (runA P g n s) := by
  intro n
  induction n with
  | zero => intro s m hs; exact ⟨m, .refl _ _, hs⟩
  | succ n ih =>
    intro s m hs
    have h1 := step_sound hE hS hg hmix hs
    unfold runA
    split
    · rename_i s' hs'
      rw [hs'] at h1
      obtain ⟨m', k1, k2⟩ := h1
      exact OutR.steps k1 (ih k2)
    · exact h1
end

end Go.AM
namespace Go.AM
open Go.RowKit (Below)
variable {E : Nat → Value} {P : Program}

/-- A call, out of a run of the abstract machine. -/
theorem calls_of_run [Summ] {G : Nat} {w : World} (hE : ∀ i, (E i).oneCell' = true) (hS : SumOk E G w P) (hmix : P.follows .mixedOrders = true) {f : FuncId} {args : List Value} {ρ : Rho} {h : Heap} (hr : HeapR E G w ρ h w)
    {al : List AV} (hal : F2 (VR E ρ) al args) {fr : AFr} (hfr : enterA P f al = some fr) {n : Nat} {v : AV} {h' : Heap} (hrun : runA P G n ⟨fr, [], h⟩ = .done v h') :
    Calls P f ⟨args⟩ w (fun e w' => ∃ x ρ', e = .returned x ∧ VR E ρ' v x ∧ Below w.heap.size w w') := by
  intro cs
  obtain ⟨b, a, todo, h1, h2⟩ := enterA_sound (P := P) hfr hal
  have hfn : fr.fn = f := by
    unfold enterA at hfr
    split at hfr
    · split at hfr
      · cases hb : (Nat.ble al.length _ && Nat.blt al.length LIMIT) <;> rw [hb] at hfr <;> simp only [cond_true, cond_false, reduceCtorEq, Option.some.injEq] at hfr
        subst hfr; rfl
      · cases hfr
    · cases hfr
  have hst : StR E G w P G cs f ⟨fr, [], h⟩ (lone (Frame.enter P f ⟨args⟩ .normal) cs w) := by
    rw [h1]
    exact ⟨ρ, b, a, todo, [], w, h.next, rfl, hr, Nat.le_refl _, ⟨h2.base, .inl ⟨h2.todo, h2.env⟩⟩, .nil _, hfn⟩
  have hout := run_sound hE hS (fun _ hn => hn) hmix n hst
  rw [hrun] at hout
  obtain ⟨fr', w', ρ', x, k1, k2, k3, k4, k5⟩ := hout
  exact ⟨.returned x, w', fr', ⟨x, ρ', rfl, k4, k5.below⟩, k1, k2, k3⟩

/-- The heap at the beginning: some package-level variables, that are only read. -/
theorem HeapR.init {G : Nat} {w : World} {h : Heap} (hlim : h.next ≤ LIMIT) (hglob : ∀ g, Nat.testBit G g = true → g < h.next ∧ roObj (h.at g) = true ∧ ∃ c e fr, w.heap[g]? = some (.cells c e fr) ∧ ObjR E (fun _ => none) (h.at g) ⟨g, 0, c.size⟩ (.cells c e fr)) :
    ∃ ρ, HeapR E G w ρ h w := by
  refine ⟨fun b => if Nat.testBit G b = true then some ⟨b, 0, match w.heap[b]? with | some (.cells c _ _) => c.size | _ => 0⟩ else none, ?_, ?_, ?_, ?_, ?_, Below.refl _ _, hlim⟩
  · intro b l e
    by_cases hb : Nat.testBit G b = true
    · rw [if_pos hb] at e
      simp only [Option.some.injEq] at e; subst e
      obtain ⟨_, _, c, e, fr, h1, h2⟩ := hglob b hb
      refine ⟨_, h1, ?_⟩
      rw [h1]
      exact h2.mono (fun _ _ hh => by cases hh)
    · rw [if_neg hb] at e; cases e
  · intro b b' l l' e e' _ _ hne
    by_cases hb : Nat.testBit G b = true
    · by_cases hb' : Nat.testBit G b' = true
      · rw [if_pos hb] at e; rw [if_pos hb'] at e'
        simp only [Option.some.injEq] at e e'; subst e; subst e'
        exact hne
      · rw [if_neg hb'] at e'; cases e'
    · rw [if_neg hb] at e; cases e
  · intro b l e
    by_cases hb : Nat.testBit G b = true
    · exact (hglob b hb).1
    · rw [if_neg hb] at e; cases e
  · intro b l e hro
    by_cases hb : Nat.testBit G b = true
    · rw [(hglob b hb).2.1] at hro; cases hro
    · rw [if_neg hb] at e; cases e
  · intro g hg
    exact ⟨_, if_pos hg, rfl, rfl⟩

end Go.AM
namespace Go.AM
noncomputable section

/-! ### The same machine, with what hangs on an operation alone worked out once for each operation -/
structure OF where
  run : Heap → List AV → Option Act1

def valF (h : Heap) (v : Option AV) : Option Act1 :=
  match v with
  | some v => some (.val v h)
  | none => none

def fMove (h : Heap) (vals : List AV) : Option Act1 :=
  match vals with
  | [x] => some (.val x h)
  | _ => none
def fPick (h : Heap) (vals : List AV) : Option Act1 :=
  match vals with
  | [c, a, b] => match c with
    | .bool true => some (.val a h)
    | .bool false => some (.val b h)
    | _ => none
  | _ => none
def fLoad (P : Program) (t : Nat) (h : Heap) (vals : List AV) : Option Act1 :=
  match vals with
  | [x] => match x with
    | .ptr b off => valF h (loadVarA P t h b off)
    | _ => none
  | _ => none
def fField (o : Nat) (h : Heap) (vals : List AV) : Option Act1 :=
  match vals with
  | [x] => match x with
    | .ptr b off => some (.val (.ptr b (off + o)) h)
    | _ => none
  | _ => none
def fNone (_ : Heap) (_ : List AV) : Option Act1 := none
def fExtract (i : Nat) (h : Heap) (vals : List AV) : Option Act1 :=
  match vals with
  | [x] => match x with
    | .tup c => valF h (c.nth i)
    | _ => none
  | _ => none
def fBin2 (P : Program) (op : BinOp) (t : Nat) (x y : Operand) (h : Heap) (a b : AV) : Option AV :=
  match a, b with
  | .int k n, .int k' m => match op with
    | .shl | .shr => shiftOp op k n m
    | _ => bif decide (k = k') then intOp op k n m else none
  | .str la a, .str lb b => strOp op la a lb b
  | _, _ =>
    bif guardOk P t x y a b then
      match op with
      | .eql => match eqVal P h t a b with
        | some r => some (mkBool r)
        | none => none
      | .neq => match eqVal P h t a b with
        | some r => some (mkBool (!r))
        | none => none
      | _ => none
    else none
def fBin (P : Program) (op : BinOp) (t : Nat) (x y : Operand) (h : Heap) (vals : List AV) : Option Act1 :=
  match vals with
  | [a, b] => valF h (fBin2 P op t x y h a b)
  | _ => none
def fIndexAddr (P : Program) (t : Nat) (h : Heap) (vals : List AV) : Option Act1 :=
  match vals with
  | [a, b] => valF h (indexAddrA P t a b)
  | _ => none
def fIndex (P : Program) (t : Nat) (h : Heap) (vals : List AV) : Option Act1 :=
  match vals with
  | [a, b] => valF h (indexA P t a b)
  | _ => none
def fStore (P : Program) (t : Nat) (h : Heap) (vals : List AV) : Option Act1 :=
  bif Nat.blt h.next LIMIT then
    match vals with
    | [p, x] => match p with
      | .ptr b off => match storeVarA P t h b off x with
        | some h => some (.val .undef h)
        | none => none
      | _ => none
    | _ => none
  else none
def fCall [Summ] (P : Program) (h : Heap) (vals : List AV) : Option Act1 :=
  bif Nat.blt h.next LIMIT then
    match vals with
    | f :: args => callA P h f args
    | [] => none
  else none
def fLen (P : Program) (t : Nat) (h : Heap) (vals : List AV) : Option Act1 :=
  match vals with
  | [x] => valF h (lenA P h t x)
  | _ => none
def fOld [Summ] (P : Program) (o : Oper) (h : Heap) (vals : List AV) : Option Act1 := operA P h o vals

def fieldBox (P : Program) (s f : Nat) : OF :=
  match fieldOff P s f with
  | some (o, t) => match sizeOfT P t with
    | some (_ + 1) => ⟨fField o⟩
    | _ => ⟨fNone⟩
  | none => ⟨fNone⟩

def callBox [Summ] (P : Program) (c : Call) (o : Oper) : OF :=
  match c.callee with
  | .value _ => ⟨fCall P⟩
  | .builtin .len => match c.argTypes.toList with
    | t :: _ => ⟨fLen P t⟩
    | [] => ⟨fOld P o⟩
  | _ => ⟨fOld P o⟩

def opBox [Summ] (P : Program) (o : Oper) : OF :=
  match o.op with
  | .move _ => ⟨fMove⟩
  | .assign _ => ⟨fMove⟩
  | .pick _ _ _ => ⟨fPick⟩
  | .load t _ => ⟨fLoad P t⟩
  | .fieldAddr s _ f => fieldBox P s f
  | .extract _ i => ⟨fExtract i⟩
  | .binOp op t x y _ => ⟨fBin P op t x y⟩
  | .indexAddr t _ _ => ⟨fIndexAddr P t⟩
  | .index t _ _ => ⟨fIndex P t⟩
  | .store t _ _ => ⟨fStore P t⟩
  | .call c => callBox P c o
  | _ => ⟨fOld P o⟩

theorem opBox_eq [Summ] (P : Program) (o : Oper) (h : Heap) (vals : List AV) : (opBox P o).run h vals = operA P h o vals := by
  obtain ⟨dst, op, ty, pos, after, guard⟩ := o
  cases op
  case move x => rcases vals with _ | ⟨v1, _ | ⟨v2, vs⟩⟩ <;> rfl
  case assign x => rcases vals with _ | ⟨v1, _ | ⟨v2, vs⟩⟩ <;> rfl
  case pick c x y =>
    rcases vals with _ | ⟨v1, _ | ⟨v2, _ | ⟨v3, _ | ⟨v4, vs⟩⟩⟩⟩ <;> try rfl
    cases v1 <;> try rfl
    rename_i b
    cases b <;> rfl
  case load t x =>
    rcases vals with _ | ⟨v1, _ | ⟨v2, vs⟩⟩ <;> try rfl
    · cases v1 <;> rfl
    · cases v1 <;> rfl
  case fieldAddr s x f =>
    show (fieldBox P s f).run h vals = _
    unfold fieldBox operA
    simp only [kindOf]
    cases hfo : fieldOff P s f with
    | none =>
      rcases vals with _ | ⟨v1, _ | ⟨v2, vs⟩⟩ <;> try rfl
      · cases v1 <;> try rfl
        simp only [readA, hfo]
        rfl
      · cases v1 <;> rfl
    | some ot =>
      obtain ⟨o, t⟩ := ot
      simp only
      cases hsz : sizeOfT P t with
      | none =>
        rcases vals with _ | ⟨v1, _ | ⟨v2, vs⟩⟩ <;> try rfl
        · cases v1 <;> try rfl
          simp only [readA, hfo, hsz]
          rfl
        · cases v1 <;> rfl
      | some n =>
        cases n with
        | zero =>
          rcases vals with _ | ⟨v1, _ | ⟨v2, vs⟩⟩ <;> try rfl
          · cases v1 <;> try rfl
            simp only [readA, hfo, hsz]
            rfl
          · cases v1 <;> rfl
        | succ n =>
          rcases vals with _ | ⟨v1, _ | ⟨v2, vs⟩⟩ <;> try rfl
          · cases v1 <;> try rfl
            simp only [readA, hfo, hsz]
            rfl
          · cases v1 <;> rfl
  case extract x i =>
    rcases vals with _ | ⟨v1, _ | ⟨v2, vs⟩⟩ <;> try rfl
    · cases v1 <;> rfl
    · cases v1 <;> rfl
  case binOp op t x y z =>
    rcases vals with _ | ⟨v1, _ | ⟨v2, _ | ⟨v3, vs⟩⟩⟩ <;> rfl
  case indexAddr t x i =>
    rcases vals with _ | ⟨v1, _ | ⟨v2, _ | ⟨v3, vs⟩⟩⟩ <;> rfl
  case index t x i =>
    rcases vals with _ | ⟨v1, _ | ⟨v2, _ | ⟨v3, vs⟩⟩⟩ <;> rfl
  case store t x i =>
    show fStore P t h vals = _
    unfold fStore operA
    simp only [kindOf]
    cases Nat.blt h.next LIMIT with
    | false => rfl
    | true =>
      simp only [cond_true]
      rcases vals with _ | ⟨v1, _ | ⟨v2, _ | ⟨v3, vs⟩⟩⟩
      · rfl
      · cases v1 <;> rfl
      · cases v1 <;> try rfl
        rename_i b off
        simp only [writeA]
        cases storeVarA P t h b off v2 <;> rfl
      · cases v1 <;> rfl
  case call c =>
    obtain ⟨callee, args, argTypes⟩ := c
    cases callee
    case value f => rfl
    case invoke rcv m => rfl
    case builtin b =>
      cases b <;> try rfl
      show (match argTypes.toList with
        | t :: _ => (⟨fLen P t⟩ : OF)
        | [] => ⟨fOld P _⟩).run h vals = _
      obtain ⟨ts⟩ := argTypes
      cases ts with
      | nil => rfl
      | cons t ts => rcases vals with _ | ⟨v1, _ | ⟨v2, vs⟩⟩ <;> rfl
  all_goals rfl

/-! ### Operands -/
structure AF where
  run : T AV → Option (List AV)

def aNil (_ : T AV) : Option (List AV) := some []
def aNone (_ : T AV) : Option (List AV) := none
def aTmp (t : Nat) (f : T AV → Option (List AV)) (env : T AV) : Option (List AV) :=
  match f env with
  | some vs => some (envGet env t :: vs)
  | none => none
def aConst (a : AV) (f : T AV → Option (List AV)) (env : T AV) : Option (List AV) :=
  match f env with
  | some vs => some (a :: vs)
  | none => none

def argBoxL (g : Nat) : List Operand → AF
  | [] => ⟨aNil⟩
  | x :: xs =>
    match argBoxL g xs with
    | ⟨f⟩ =>
      match x with
      | .tmp t => ⟨aTmp t f⟩
      | .const v => match ofConst v with
        | some a => ⟨aConst a f⟩
        | none => ⟨aNone⟩
      | .global n => match Nat.testBit g n with
        | true => ⟨aConst (.ptr n 0) f⟩
        | false => ⟨aNone⟩
      | .func i => ⟨aConst (.func (.func i) .nil .nil) f⟩

def argBox (g : Nat) (o : Oper) : AF := argBoxL g o.op.operands.toList

theorem argBoxL_eq (g : Nat) (env : T AV) : ∀ xs : List Operand, (argBoxL g xs).run env = evalAll g env xs := by
  intro xs
  induction xs with
  | nil => rfl
  | cons x xs ih =>
    simp only [argBoxL, evalAll]
    rw [← ih]
    cases x with
    | tmp t => rfl
    | const v =>
      simp only [evalA]
      cases ofConst v with
      | none => rfl
      | some a => rfl
    | global n =>
      simp only [evalA]
      cases Nat.testBit g n <;> rfl
    | func i => rfl

def wantF [Summ] (P : Program) (g : Nat) (s : ASt) (ops : Array Oper) (o : Oper) (rest : List Oper) (k : List AItem) : AOut :=
  match (argBox g o).run s.fr.env with
  | some vals =>
    match (opBox P o).run s.h vals with
    | some (.val v h) => putA s o.dst v (.reg ops rest :: k) h
    | some (.enter fr) => .next ⟨fr, s.fr :: s.cs, s.h⟩
    | some (.ret _ _ v) => putA s o.dst v (.reg ops rest :: k) s.h
    | none => forkA s o vals (.reg ops rest :: k)
  | none => .fail 30

theorem wantF_eq [Summ] (P : Program) (g : Nat) (s : ASt) (ops : Array Oper) (o : Oper) (rest : List Oper) (k : List AItem) : wantF P g s ops o rest k = wantA P g s ops o rest k := by
  unfold wantF wantA argBox
  rw [argBoxL_eq]
  cases evalAll g s.fr.env o.op.operands.toList with
  | none => rfl
  | some vals =>
    simp only [opBox_eq]
    cases operA P s.h o vals with
    | none => rfl
    | some r => cases r <;> rfl

def regF [Summ] (P : Program) (g : Nat) (s : ASt) (ops : Array Oper) (rest : List Oper) (k : List AItem) : AOut :=
  match rest with
  | [] => goA s k
  | o :: rest =>
    match wantedA ops s.fr.env o with
    | some false => putA s o.dst .undef (.reg ops rest :: k) s.h
    | some true => wantF P g s ops o rest k
    | none => .fail 31

def itemF [Summ] (P : Program) (g : Nat) (s : ASt) (x : AItem) (k : List AItem) : AOut :=
  match x with
  | .inBlock _ | .inScope _ => goA s k
  | .inLoop body => goA s (.code body :: .inLoop body :: k)
  | .code c => codeA P g s c k
  | .reg ops rest => regF P g s ops rest k
  | .dreg d => dregA P g s d k
  | .inRF _ => .fail 32
  | .endRF l => endA s l k
  | .beginRound => beginA s k

def stepF [Summ] (P : Program) (g : Nat) (s : ASt) : AOut :=
  match s.fr.todo with
  | [] => leaveA P s none
  | x :: k => itemF P g s x k

theorem stepF_eq [Summ] (P : Program) (g : Nat) (s : ASt) : stepF P g s = stepA P g s := by
  unfold stepF stepA
  cases s.fr.todo with
  | nil => rfl
  | cons x k =>
    cases x <;> try rfl
    rename_i ops rest
    show regF P g s ops rest k = regA P g s ops rest k
    unfold regF regA
    cases rest with
    | nil => rfl
    | cons o rest =>
      simp only
      cases wantedA ops s.fr.env o with
      | none => rfl
      | some b =>
        cases b with
        | false => rfl
        | true => exact wantF_eq P g s ops o rest k

def runF [Summ] (P : Program) (g : Nat) : Nat → ASt → AOut
  | 0, s => .next s
  | n + 1, s => match stepF P g s with
    | .next s => runF P g n s
    | o => o

theorem runF_eq [Summ] (P : Program) (g : Nat) : ∀ (n : Nat) (s : ASt), runF P g n s = runA P g n s := by
  intro n
  induction n with
  | zero => intro s; rfl
  | succ n ih =>
    intro s
    unfold runF runA
    rw [stepF_eq]
    cases stepA P g s with
    | next s' => exact ih s'
    | done v h => rfl
    | fail n => rfl
    | fork l => rfl

/-! ### A run that ends in true -/
def isTrue : AOut → Bool
  | .done (.bool b) _ => b
  | _ => false

def evalOk [Summ] (P : Program) (G n f : Nat) (al : List AV) (h : Heap) : Bool :=
  match enterA P f al with
  | some fr => isTrue (runF P G n ⟨fr, [], h⟩)
  | none => false

theorem isTrue_done {o : AOut} (h : isTrue o = true) : ∃ h', o = .done (.bool true) h' := by
  unfold isTrue at h
  split at h
  · subst h; exact ⟨_, rfl⟩
  · cases h

theorem calls_of_eval [Summ] {E : Nat → Value} {P : Program} {G : Nat} {w : World} (hE : ∀ i, (E i).oneCell' = true) (hS : SumOk E G w P) (hmix : P.follows .mixedOrders = true) {f : FuncId} {args : List Value} {ρ : Rho} {h : Heap} (hr : HeapR E G w ρ h w)
    {al : List AV} (hal : F2 (VR E ρ) al args) {n : Nat} (hev : evalOk P G n f al h = true) :
    Calls P f ⟨args⟩ w (fun e w' => e = .returned (.bool true) ∧ RowKit.Below w.heap.size w w') := by
  unfold evalOk at hev
  split at hev
  · rename_i fr hfr
    obtain ⟨h', hh⟩ := isTrue_done hev
    rw [runF_eq] at hh
    refine (calls_of_run hE hS hmix hr hal hfr hh).mono fun e w' hx => ?_
    obtain ⟨x, ρ', h1, h2, h3⟩ := hx
    have h2' : x = .bool true := h2
    subst h2'
    exact ⟨h1, h3⟩
  · cases hev

end
end Go.AM

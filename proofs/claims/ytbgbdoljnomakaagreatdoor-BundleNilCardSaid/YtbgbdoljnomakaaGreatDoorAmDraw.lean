/- Frames, calls and regions whose order is drawn: the abstract machine's reckoning is right for every order. -/
import Derived.Test.YtbgbdoljnomakaaGreatDoorAmWrite
import Derived.RangeFuncIn
import Derived.Orders
namespace Go.AM
open Go.RowKit (Below)
variable {E : Nat → Value} {G : Nat} {w0 : World} {ρ : Rho} {h : Heap} {w : World} {P : Program}

/-! ### Temporaries -/
def EnvR (E : Nat → Value) (ρ : Rho) (env : T AV) (tmps : Array Value) : Prop := ∀ t, VR E ρ (envGet env t) (tmps.getD t Go.undef)

theorem EnvR.mono {ρ' : Rho} (hle : ρ.le ρ') {env : T AV} {tmps : Array Value} (he : EnvR E ρ env tmps) : EnvR E ρ' env tmps := fun t => VR.mono hle (he t)

theorem getD_set (tmps : Array Value) (d : Nat) (v : Value) (t : Nat) (hd : d < tmps.size) : (tmps.setIfInBounds d v).getD t Go.undef = if t = d then v else tmps.getD t Go.undef := by
  simp only [Array.getD_eq_getD_getElem?]
  by_cases ht : t = d
  · subst ht; simp [hd]
  · rw [if_neg ht, Array.getElem?_setIfInBounds_ne (Ne.symm ht)]

theorem putEnv_some {size : Nat} {env e : T AV} {dst : Option Nat} {a : AV} (hp : putEnv size env dst a = some e) : (dst = none ∧ e = env) ∨ ∃ d, dst = some d ∧ d < size ∧ d < LIMIT ∧ e = envSet env d a := by
  unfold putEnv at hp
  split at hp
  · simp only [Option.some.injEq] at hp; exact .inl ⟨rfl, hp.symm⟩
  · rename_i d
    cases hb : (Nat.blt d size && Nat.blt d LIMIT) <;> rw [hb] at hp <;> simp only [cond_true, cond_false, reduceCtorEq, Option.some.injEq] at hp
    simp only [Bool.and_eq_true, Nat.blt_eq] at hb
    exact .inr ⟨d, rfl, hb.1, hb.2, hp.symm⟩

theorem put_size (a : Act) (dst : Option Tmp) (v : Value) : (a.put dst v).tmps.size = a.tmps.size := by
  cases dst <;> simp [Act.put]
theorem put_defers (a : Act) (dst : Option Tmp) (v : Value) : (a.put dst v).defers = a.defers := by
  cases dst <;> rfl

theorem EnvR.put {env e : T AV} {act : Act} (he : EnvR E ρ env act.tmps) {dst : Option Nat} {a : AV} {v : Value} (hv : VR E ρ a v) (hp : putEnv act.tmps.size env dst a = some e) :
    EnvR E ρ e (act.put dst v).tmps := by
  rcases putEnv_some hp with ⟨rfl, rfl⟩ | ⟨d, rfl, h1, h2, rfl⟩
  · exact he
  · intro t
    show VR E ρ _ ((act.tmps.setIfInBounds d v).getD t Go.undef)
    rw [getD_set _ _ _ _ h1, envGet_set _ _ _ _ h2]
    by_cases ht : t = d
    · rw [if_pos ht, if_pos ht]; exact hv
    · rw [if_neg ht, if_neg ht]; exact he t

theorem EnvR.leaf {tmps : Array Value} (ht : ∀ t, tmps.getD t Go.undef = Go.undef) : EnvR E ρ .leaf tmps := fun t => by
  rw [ht t, show envGet .leaf t = AV.undef from T.get_leaf _ _]; exact VR.undef

theorem layArgs_get : ∀ (l : List AV) (i : Nat) (e : T AV) (t : Nat), i + l.length ≤ LIMIT → envGet (layArgs l i e) t = if i ≤ t ∧ t < i + l.length then l.getD (t - i) AV.undef else envGet e t := by
  intro l
  induction l with
  | nil => intro i e t _; rw [if_neg (by simp)]; rfl
  | cons a l ih =>
    intro i e t hl
    simp only [List.length_cons] at hl ⊢
    simp only [layArgs]
    rw [ih (i + 1) _ t (by omega), envGet_set _ _ _ _ (by omega)]
    by_cases ht : t = i
    · subst ht
      rw [if_neg (by omega), if_pos rfl, if_pos (by omega)]
      simp
    · by_cases ht2 : i + 1 ≤ t ∧ t < i + 1 + l.length
      · rw [if_pos ht2, if_pos (by omega), show t - i = (t - (i + 1)) + 1 from by omega]
        simp
      · rw [if_neg ht2, if_neg ht, if_neg (by omega)]

theorem EnvR.args {l : List AV} {vs : List Value} (hv : F2 (VR E ρ) l vs) (n : Nat) (hn : l.length < LIMIT) : EnvR E ρ (layArgs l 0 .leaf) ((⟨vs⟩ : Array Value) ++ Array.replicate n Go.undef) := by
  intro t
  have hlen := hv.length
  rw [layArgs_get _ _ _ _ (by omega)]
  simp only [Array.getD_eq_getD_getElem?]
  by_cases ht : 0 ≤ t ∧ t < 0 + l.length
  · rw [if_pos ht]
    have h1 : t < l.length := by omega
    obtain ⟨b, hb, hr⟩ := hv.get t (l[t]) (by simp)
    rw [Array.getElem?_append_left (by simp; omega)]
    simp only [List.getElem?_toArray, hb, Option.getD_some, Nat.sub_zero]
    rw [List.getD_eq_getElem?_getD, List.getElem?_eq_getElem h1]
    exact hr
  · rw [if_neg ht]
    rw [Array.getElem?_append_right (by simp; omega)]
    have : ((Array.replicate n Go.undef)[t - vs.length]?).getD Go.undef = Go.undef := by
      rw [Array.getElem?_replicate]
      split <;> rfl
    simp only [List.size_toArray]
    rw [this, show envGet .leaf t = AV.undef from T.get_leaf _ _]
    exact VR.undef

/-! ### Operands -/
theorem evalA_sound {g : Nat} (hg : ∀ n, Nat.testBit g n = true → Nat.testBit G n = true) (hr : HeapR E G w0 ρ h w) {env : T AV} {a : Act} {x : Operand} (he : ∀ t, x = .tmp t → VR E ρ (envGet env t) (a.tmps.getD t Go.undef)) {v : AV} (hs : evalA g env x = some v) :
    VR E ρ v (a.eval x) := by
  cases x with
  | tmp t => simp only [evalA, Option.some.injEq] at hs; subst hs; exact he t rfl
  | const c => exact VR.ofConst hs
  | global n =>
    simp only [evalA] at hs
    cases hb : Nat.testBit g n <;> rw [hb] at hs <;> simp only [cond_true, cond_false, reduceCtorEq, Option.some.injEq] at hs
    subst hs
    obtain ⟨l, e, h1, h2⟩ := hr.glob n (hg n hb)
    refine ⟨l, e, ?_⟩
    rw [h1, h2]; rfl
  | func f => simp only [evalA, Option.some.injEq] at hs; subst hs; exact ⟨[], [], rfl, rfl, rfl, rfl, rfl⟩

theorem mem_tmpsOf {t : Nat} : ∀ {xs : List Operand}, .tmp t ∈ xs → t ∈ tmpsOf xs
  | x :: xs, hm => by
    cases hm with
    | head => exact List.mem_cons_self ..
    | tail _ hm =>
      have := mem_tmpsOf hm
      cases x <;> first | exact List.mem_cons_of_mem _ this | exact this

theorem evalAll_sound {g : Nat} (hg : ∀ n, Nat.testBit g n = true → Nat.testBit G n = true) (hr : HeapR E G w0 ρ h w) {env : T AV} {a : Act} : ∀ {xs : List Operand} {vs : List AV}, (∀ t, t ∈ tmpsOf xs → VR E ρ (envGet env t) (a.tmps.getD t Go.undef)) → evalAll g env xs = some vs →
    F2 (VR E ρ) vs (xs.map a.eval) := by
  intro xs
  induction xs with
  | nil => intro vs _ hs; simp only [evalAll, Option.some.injEq] at hs; subst hs; exact .nil
  | cons x xs ih =>
    intro vs he hs
    simp only [evalAll] at hs
    split at hs
    · rename_i v hv
      split at hs
      · rename_i vs' hvs
        simp only [Option.some.injEq] at hs; subst hs
        refine .cons (evalA_sound hg hr (fun t ht => he t (mem_tmpsOf (by rw [ht]; exact List.mem_cons_self ..))) hv) (ih (fun t ht => he t ?_) hvs)
        cases x <;> first | exact List.mem_cons_of_mem _ ht | exact ht
      · cases hs
    · cases hs

/-! ### Guards -/
theorem wanted_sound {ops : Array Oper} {env : T AV} {tmps : Array Value} {o : Oper} (he : ∀ t, t ∈ looksAt ops o → VR E ρ (envGet env t) (tmps.getD t Go.undef)) {b : Bool} (hs : wantedA ops env o = some b) : Region.wanted o (yielded ops tmps) = b := by
  unfold wantedA at hs
  unfold Region.wanted
  split at hs
  · rename_i hg
    simp only [Option.some.injEq] at hs; subst hs
    simp only [hg]
  · rename_i j want hg
    simp only [hg]
    have hto : ops.toList[j]? = ops[j]? := by simp
    split at hs
    · rename_i gop hgo
      split at hs
      · rename_i d hd
        have hl : d ∈ looksAt ops o := by
          unfold looksAt
          simp only [hg, hgo, hd]
          exact List.mem_cons_self ..
        have hv := he d hl
        have hy : yielded ops tmps j = match tmps[d]? with | some (.bool b) => some b | _ => none := by
          unfold yielded
          rw [← hto, hgo]
          simp only [Option.bind_some, hd]
          cases tmps[d]? with
          | none => rfl
          | some y => cases y <;> rfl
        rw [hy]
        split at hs
        · rename_i x hx
          rw [hx] at hv
          have hv' : tmps.getD d Go.undef = .bool x := hv
          simp only [Option.some.injEq] at hs
          rw [Array.getD_eq_getD_getElem?] at hv'
          cases hq : tmps[d]? with
          | none => rw [hq] at hv'; cases hv'
          | some y =>
            rw [hq] at hv'
            simp only [Option.getD_some] at hv'
            subst hv'
            rw [← hs]
            cases x <;> cases want <;> rfl
        · rename_i hx
          rw [hx] at hv
          obtain ⟨xs, hx1, hx2⟩ := VR.tup_iff.1 hv
          simp only [Option.some.injEq] at hs; subst hs
          rw [Array.getD_eq_getD_getElem?] at hx1
          cases hq : tmps[d]? with
          | none => rfl
          | some y =>
            rw [hq] at hx1
            simp only [Option.getD_some] at hx1
            subst hx1
            rfl
        · cases hs
      · cases hs
    · cases hs

/-! ### Items -/
def ItemR (ρ : Rho) : AItem → Item → Prop
  | .code c, x => x = .code c
  | .inBlock i, x => x = .inBlock i
  | .inLoop c, x => x = .inLoop c
  | .inScope c, x => x = .inScope c
  | .reg ops rest, x => ∃ k, k ≤ ops.size ∧ x = .inRegion ops (List.range' k (ops.size - k)) ∧ rest = ops.toList.drop k
  | .dreg _, _ => False
  | .inRF l, x => ∃ c, ρ l = some c ∧ x = .inRangeFunc c.blk
  | .endRF l, x => ∃ c, ρ l = some c ∧ x = .endRangeFunc c.blk
  | .beginRound, x => x = .beginRound

theorem ItemR.mono {ρ' : Rho} (hle : ρ.le ρ') {a : AItem} {x : Item} (hi : ItemR ρ a x) : ItemR ρ' a x := by
  cases a with
  | inRF l => obtain ⟨c, h1, h2⟩ := hi; exact ⟨c, hle _ _ h1, h2⟩
  | endRF l => obtain ⟨c, h1, h2⟩ := hi; exact ⟨c, hle _ _ h1, h2⟩
  | _ => exact hi

theorem exitA_sound {id : Nat} : ∀ {k : List AItem} {k' : List Item}, F2 (ItemR ρ) k k' → (∀ r, exitA id k = some r → ∃ r', exitTo id k' = some r' ∧ F2 (ItemR ρ) r r') ∧ (exitA id k = none → exitTo id k' = none) := by
  intro k k' hk
  induction hk with
  | nil => exact ⟨fun r hr => by simp [exitA] at hr, fun _ => rfl⟩
  | @cons a x as xs h1 h2 ih =>
    cases a with
    | inBlock i =>
      obtain rfl := h1
      simp only [exitA, exitTo]
      cases hb : Nat.beq i id with
      | true =>
        simp only [Nat.beq_eq] at hb
        subst hb
        simp only [cond_true, Option.some.injEq, beq_self_eq_true, if_true]
        exact ⟨fun r hr => ⟨xs, rfl, by rw [← hr]; exact h2⟩, fun hh => by cases hh⟩
      | false =>
        have hne : (i == id) = false := by
          cases hq : i == id with
          | false => rfl
          | true => rw [beq_iff_eq] at hq; subst hq; simp at hb
        simp only [cond_false, hne, Bool.false_eq_true, if_false]
        exact ih
    | code c => obtain rfl := h1; exact ih
    | inLoop c => obtain rfl := h1; exact ih
    | inScope c => obtain rfl := h1; exact ih
    | reg ops rest => obtain ⟨_, _, rfl, _⟩ := h1; exact ih
    | dreg d => exact h1.elim
    | inRF l => obtain ⟨_, _, rfl⟩ := h1; exact ih
    | endRF l => obtain ⟨_, _, rfl⟩ := h1; exact ih
    | beginRound => obtain rfl := h1; exact ih

theorem gotoA_sound {l : Nat} : ∀ {k : List AItem} {k' : List Item}, F2 (ItemR ρ) k k' → (∀ r, gotoA l k = some r → ∃ r', gotoIn l k' = some r' ∧ F2 (ItemR ρ) r r') ∧ (gotoA l k = none → gotoIn l k' = none) := by
  intro k k' hk
  induction hk with
  | nil => exact ⟨fun r hr => by simp [gotoA] at hr, fun _ => rfl⟩
  | @cons a x as xs h1 h2 ih =>
    cases a with
    | inScope c =>
      have h1' := h1
      obtain rfl := h1
      simp only [gotoA, gotoIn]
      cases hf : findLabel c l with
      | none => exact ih
      | some rest =>
        simp only [Option.some.injEq]
        exact ⟨fun r hr => ⟨_, rfl, by rw [← hr]; exact .cons rfl (.cons rfl h2)⟩, fun hh => by cases hh⟩
    | inBlock c => obtain rfl := h1; exact ih
    | code c => obtain rfl := h1; exact ih
    | inLoop c => obtain rfl := h1; exact ih
    | reg ops rest => obtain ⟨_, _, rfl, _⟩ := h1; exact ih
    | dreg d => exact h1.elim
    | inRF l => obtain ⟨_, _, rfl⟩ := h1; exact ih
    | endRF l => obtain ⟨_, _, rfl⟩ := h1; exact ih
    | beginRound => obtain rfl := h1; exact ih

end Go.AM
namespace Go.AM
open Go.RowKit (Below)
variable {E : Nat → Value} {G : Nat} {w0 : World} {ρ : Rho} {h : Heap} {w : World} {P : Program}

/-! ### Frames -/
def MarkR (ρ : Rho) (d : Nat) (x : Deferred) : Prop := ∃ l, ρ d = some l ∧ x = { target := .collected l.blk, args := #[] }

theorem MarkR.mono {ρ' : Rho} (hle : ρ.le ρ') {d : Nat} {x : Deferred} (hm : MarkR ρ d x) : MarkR ρ' d x := by
  obtain ⟨l, h1, h2⟩ := hm; exact ⟨l, hle _ _ h1, h2⟩

def RoundR (ρ : Rho) : Option Nat → Option Nat → Prop
  | none, r => r = none
  | some b, r => ∃ l, ρ b = some l ∧ r = some l.blk

theorem RoundR.mono {ρ' : Rho} (hle : ρ.le ρ') {a r : Option Nat} (hm : RoundR ρ a r) : RoundR ρ' a r := by
  cases a with
  | none => exact hm
  | some b => obtain ⟨l, h1, h2⟩ := hm; exact ⟨l, hle _ _ h1, h2⟩

/-- What a frame is but for its items and its temporaries. -/
structure BaseR (ρ : Rho) (af : AFr) (b : Frame) (a : Act) : Prop where
  fn : b.fn = af.fn
  kind : b.kind = .normal
  size : a.tmps.size = af.size
  defers : F2 (MarkR ρ) af.defers a.defers
  round : RoundR ρ af.round b.roundOf

theorem BaseR.mono {ρ' : Rho} (hle : ρ.le ρ') {af : AFr} {b : Frame} {a : Act} (hb : BaseR ρ af b a) : BaseR ρ' af b a :=
  ⟨hb.fn, hb.kind, hb.size, hb.defers.imp fun _ _ hm => hm.mono hle, hb.round.mono hle⟩

/-- A frame that has just begun. -/
structure NewR (E : Nat → Value) (ρ : Rho) (af : AFr) (b : Frame) (a : Act) (todo : List Item) : Prop where
  base : BaseR ρ af b a
  todo : F2 (ItemR ρ) af.todo todo
  env : EnvR E ρ af.env a.tmps

theorem NewR.mono {ρ' : Rho} (hle : ρ.le ρ') {af : AFr} {b : Frame} {a : Act} {todo : List Item} (hn : NewR E ρ af b a todo) : NewR E ρ' af b a todo :=
  ⟨hn.base.mono hle, hn.todo.imp fun _ _ hi => hi.mono hle, hn.env.mono hle⟩

/-- What the model answers where a frame is entered. -/
def Enters (P : Program) (r : Next) (fr : Frame) : Prop :=
  (∃ f args, r = .enter f args ∧ fr = Frame.enter P f args .normal) ∨ (∃ l f tmps as bd, r = .round l f tmps as bd ∧ fr = Frame.round l f tmps as bd .normal)

theorem F2.toList_get {α : Type} {l : List α} {i : Nat} : l[i]? = l[i]? := rfl

theorem enterA_sound {f : Nat} {args : List AV} {fr : AFr} (hs : enterA P f args = some fr) {vs : List Value} (hv : F2 (VR E ρ) args vs) :
    ∃ b a todo, Frame.enter P f ⟨vs⟩ .normal = b.atR a todo ∧ NewR E ρ fr b a todo := by
  unfold enterA at hs
  split at hs
  · rename_i fn hfn
    split at hs
    · rename_i c hc
      cases hb : (Nat.ble args.length fn.ntmps && Nat.blt args.length LIMIT) <;> rw [hb] at hs <;> simp only [cond_true, cond_false, reduceCtorEq, Option.some.injEq] at hs
      simp only [Bool.and_eq_true, Nat.ble_eq, Nat.blt_eq] at hb
      subst hs
      have hf : P.funcs[f]? = some fn := by simpa using hfn
      have hlen := hv.length
      refine ⟨Frame.enter P f ⟨vs⟩ .normal, ⟨(⟨vs⟩ : Array Value) ++ Array.replicate (fn.ntmps - vs.length) Go.undef, []⟩, [.code c], ?_, ⟨⟨rfl, rfl, ?_, .nil, rfl⟩, .cons rfl .nil, EnvR.args hv _ hb.2⟩⟩
      · simp [Frame.enter, Frame.atR, hf, hc]
      · simp; omega
    · cases hs
  · cases hs

theorem setParams_sound : ∀ {ps : List Nat} {l : List AV} {e e' : T AV}, setParams ps l e = some e' → ∀ {vs : List Value} {tmps : Array Value}, F2 (VR E ρ) l vs → EnvR E ρ e tmps → (∀ p ∈ ps, p < tmps.size) →
    ps.length = vs.length ∧ EnvR E ρ e' ((ps.zip vs).foldl (fun tmps (p : Nat × Value) => tmps.setIfInBounds p.1 p.2) tmps) ∧ ((ps.zip vs).foldl (fun tmps (p : Nat × Value) => tmps.setIfInBounds p.1 p.2) tmps).size = tmps.size := by
  intro ps
  induction ps with
  | nil =>
    intro l e e' hs vs tmps hv he _
    cases l with
    | nil =>
      simp only [setParams, Option.some.injEq] at hs; subst hs
      cases hv
      exact ⟨rfl, he, rfl⟩
    | cons => simp [setParams] at hs
  | cons p ps ih =>
    intro l e e' hs vs tmps hv he hp
    cases l with
    | nil => simp [setParams] at hs
    | cons a l =>
      simp only [setParams] at hs
      cases hb : Nat.blt p LIMIT <;> rw [hb] at hs <;> simp only [cond_true, cond_false, reduceCtorEq] at hs
      have hb' : p < LIMIT := by simpa [Nat.blt_eq] using hb
      cases hv with
      | @cons _ v _ vs h1 h2 =>
        have hps : p < tmps.size := hp p (List.mem_cons_self ..)
        have he1 : EnvR E ρ (envSet e p a) (tmps.setIfInBounds p v) := fun t => by
          rw [getD_set _ _ _ _ hps, envGet_set _ _ _ _ hb']
          by_cases ht : t = p
          · rw [if_pos ht, if_pos ht]; exact h1
          · rw [if_neg ht, if_neg ht]; exact he t
        obtain ⟨g1, g2, g3⟩ := ih hs h2 he1 (fun q hq => by simp; exact hp q (List.mem_cons_of_mem _ hq))
        refine ⟨by simp [g1], by simpa using g2, by simpa using g3⟩

theorem HeapR.loopAt (hr : HeapR E G w0 ρ h w) {b : Nat} {l : Loc} (e : ρ b = some l) {st : LoopState} {pending : Option Code} {fn : Nat} {env : T AV} {size : Nat} {params : List Nat} {assign body : Code} {df : Nat}
    (ha : h.at b = .loop st pending fn env size params assign body df) : ∃ tmps dl, w.heap[l.blk]? = some (.loop ⟨st, pending, fn, tmps, ⟨params⟩, assign, body, dl⟩) ∧ tmps.size = size ∧ EnvR E ρ env tmps ∧ ∃ l', ρ df = some l' ∧ dl = l'.blk := by
  obtain ⟨o, h1, h2⟩ := hr.obj b l e
  rw [ha] at h2
  obtain ⟨tmps, dl, rfl, h3, h4, h5⟩ := h2
  exact ⟨tmps, dl, h1, h3, h4, h5⟩

theorem run_getLoop {l : Nat} {r : Loop} (hb : w.heap[l]? = some (.loop r)) : (Instr.getLoop l).run P w = .ok r w := by
  unfold Instr.getLoop
  simp only [Sem.run_bind, run_getObj_ok hb rfl, Result.andThen_ok, Sem.run_pure]

theorem roundA_sound (hr : HeapR E G w0 ρ h w) {b : Nat} {l : Loc} (e : ρ b = some l) {args : List AV} {fr : AFr} (hs : roundA h b args = some fr) {vs : List Value} (hv : F2 (VR E ρ) args vs) :
    ∃ r nf b' a todo, (Instr.yield l.blk ⟨vs⟩).run P w = .ok r w ∧ Enters P r nf ∧ nf = b'.atR a todo ∧ NewR E ρ fr b' a todo := by
  unfold roundA at hs
  split at hs
  · rename_i st pending fn env size params assign body df hat
    obtain ⟨tmps, dl, g1, g2, g3, _⟩ := hr.loopAt e hat
    cases hb : params.all (fun p => Nat.blt p size) <;> rw [hb] at hs <;> simp only [cond_true, cond_false, reduceCtorEq] at hs
    split at hs
    · rename_i e' he'
      simp only [Option.some.injEq] at hs; subst hs
      have hp : ∀ p ∈ params, p < tmps.size := fun p hp => by
        have := List.all_eq_true.1 hb p hp
        rw [g2]; simpa [Nat.blt_eq] using this
      obtain ⟨k1, k2, k3⟩ := setParams_sound he' hv g3 hp
      refine ⟨.round l.blk fn (((⟨params⟩ : Array Nat).zip ⟨vs⟩).foldl (fun tmps (p : Nat × Value) => tmps.setIfInBounds p.1 p.2) tmps) assign body, _,
        Frame.round l.blk fn (((⟨params⟩ : Array Nat).zip ⟨vs⟩).foldl (fun tmps (p : Nat × Value) => tmps.setIfInBounds p.1 p.2) tmps) assign body .normal,
        ⟨((⟨params⟩ : Array Nat).zip ⟨vs⟩).foldl (fun tmps (p : Nat × Value) => tmps.setIfInBounds p.1 p.2) tmps, []⟩, [.code assign, .beginRound, .code body], ?_, .inr ⟨_, _, _, _, _, rfl, rfl⟩, rfl, ?_⟩
      · unfold Instr.yield
        simp only [Sem.run_bind, run_getLoop g1, Result.andThen_ok]
        have hsz : ¬ ((⟨vs⟩ : Array Value).size ≠ (⟨params⟩ : Array Nat).size) := by simp [k1]
        simp only [hsz, if_false, Sem.run_pure]
      · have hz : ((⟨params⟩ : Array Nat).zip ⟨vs⟩).foldl (fun tmps (p : Nat × Value) => tmps.setIfInBounds p.1 p.2) tmps = (params.zip vs).foldl (fun tmps (p : Nat × Value) => tmps.setIfInBounds p.1 p.2) tmps := by
          simp
        rw [hz]
        exact ⟨⟨rfl, rfl, by rw [k3]; exact g2, .nil, ⟨l, e, rfl⟩⟩, .cons rfl (.cons rfl (.cons rfl .nil)), k2⟩
    · cases hs
  · cases hs

/-- The model's call of a value. -/
def callV (f : Value) (args : Array Value) : Sem Next := do let d ← Deferred.ofValue f args; invoke d.target d.args

/-- What is asked of an answer. -/
def ActR [Summ] (E : Nat → Value) (G : Nat) (w0 : World) (ρ : Rho) (h : Heap) (P : Program) (s : Sem Next) (w : World) : Act1 → Prop
  | .val v h' => ∃ r x w' ρ', s.run P w = .ok r w' ∧ (r = .value x ∨ (r = .skip ∧ x = Go.undef)) ∧ HeapR E G w0 ρ' h' w' ∧ Ext ρ h ρ' h' ∧ VR E ρ' v x
  | .enter fr => ∃ r nf b a todo, s.run P w = .ok r w ∧ Enters P r nf ∧ nf = b.atR a todo ∧ NewR E ρ fr b a todo
  | .ret f args v => ∃ r vals, s.run P w = .ok r w ∧ Enters P r (Frame.enter P f ⟨vals⟩ .normal) ∧ F2 (VR E ρ) args vals ∧ Summ.sm P h f args = some v

theorem callA_sound [Summ] (hr : HeapR E G w0 ρ h w) {f : AV} {args : List AV} {r : Act1} (hs : callA P h f args = some r) {vf : Value} {vs : List Value} (hf : VR E ρ f vf) (hv : F2 (VR E ρ) args vs) : ActR E G w0 ρ h P (callV vf ⟨vs⟩) w r := by
  unfold callA at hs
  split at hs
  · rename_i b
    obtain ⟨l, el, rfl⟩ := hf
    split at hs
    · rename_i fr hfr
      simp only [Option.some.injEq] at hs; subst hs
      obtain ⟨r, nf, b', a, todo, h1, h2⟩ := roundA_sound (P := P) hr el hfr hv
      refine ⟨r, nf, b', a, todo, ?_, h2⟩
      show (Instr.yield l.blk (#[] ++ ⟨vs⟩)).run P w = _
      rw [show (#[] ++ (⟨vs⟩ : Array Value)) = ⟨vs⟩ from by simp]
      exact h1
    · cases hs
  · rename_i f first captured
    obtain ⟨xs, ys, rfl, c1, c2, h1, h2⟩ := hf
    have hall : F2 (VR E ρ) (first.toList ++ (args ++ captured.toList)) (xs ++ (vs ++ ys)) := (CL.toList ⟨c1, h1⟩).append (hv.append (CL.toList ⟨c2, h2⟩))
    have hrun : ∀ w, (callV (.func (.func f) ⟨xs⟩ ⟨ys⟩) ⟨vs⟩).run P w = (callFunc f ⟨xs ++ (vs ++ ys)⟩).run P w := fun w => by
      show (callFunc f ((⟨xs⟩ ++ ⟨vs⟩) ++ ⟨ys⟩)).run P w = _
      congr 2
      apply Array.ext'
      simp
    split at hs
    · rename_i fn hfn
      have hf' : P.funcs[f]? = some fn := by simpa using hfn
      cases hng : (fn.name == "runtime.NumGoroutine") <;> rw [hng] at hs <;> simp only [cond_true, cond_false, reduceCtorEq] at hs
      cases hbd : hasBody fn <;> rw [hbd] at hs <;> simp only [cond_true, cond_false] at hs
      · split at hs
        · rename_i v hv'
          simp only [Option.some.injEq] at hs; subst hs
          have hnone : fn.body.isNone = true := by
            unfold hasBody at hbd
            cases hq : fn.body with
            | none => rfl
            | some c => rw [hq] at hbd; cases hbd
          obtain ⟨x, g1, g2⟩ := extA_sound (P := P) (w := w) hf' hng hnone hv' hall
          exact ⟨.value x, x, w, ρ, by rw [hrun, g1], .inl rfl, hr, Ext.refl _ _, g2⟩
        · split at hs
          · rename_i n hn
            cases hlim : Nat.blt h.next LIMIT <;> rw [hlim] at hs <;> simp only [cond_true, cond_false, reduceCtorEq, Option.some.injEq] at hs
            subst hs
            have hlim' : h.next < LIMIT := by simpa [Nat.blt_eq] using hlim
            have hnone : fn.body.isNone = true := by
              unfold hasBody at hbd
              cases hq : fn.body with
              | none => rfl
              | some c => rw [hq] at hbd; cases hbd
            obtain ⟨co, size, v, g1, g2, g3⟩ := newA_sound (E := E) (P := P) (w := w) hf' hng hnone hn hall
            obtain ⟨k1, k2⟩ := (hr.drew.drew).push hlim' (a := n.obj) (o := co) (base := 0) (size := size) (g2 _)
            exact ⟨.value v, v, _, _, by rw [hrun, g1], .inl rfl, k1, k2, g3 _ _ Rho.add_self⟩
          · cases hs
      · have hsome : ∃ c, fn.body = some c := by
          unfold hasBody at hbd
          cases hq : fn.body with
          | none => rw [hq] at hbd; cases hbd
          | some c => exact ⟨c, rfl⟩
        obtain ⟨c, hc⟩ := hsome
        have hn : ¬ fn.name = "runtime.NumGoroutine" := by simpa using hng
        split at hs
        · rename_i v hv'
          simp only [Option.some.injEq] at hs; subst hs
          refine ⟨_, _, ?_, .inl ⟨f, ⟨xs ++ (vs ++ ys)⟩, rfl, rfl⟩, hall, hv'⟩
          rw [hrun]
          simp [callFunc, hf', hn, hc]
        · split at hs
          · rename_i fr hfr
            simp only [Option.some.injEq] at hs; subst hs
            obtain ⟨b, a, todo, g1, g2⟩ := enterA_sound (P := P) hfr hall
            refine ⟨_, _, b, a, todo, ?_, .inl ⟨f, ⟨xs ++ (vs ++ ys)⟩, rfl, rfl⟩, g1, g2⟩
            rw [hrun]
            simp [callFunc, hf', hn, hc]
          · cases hs
    · cases hs
  · cases hs

theorem operA_sound [Summ] (hE : ∀ i, (E i).oneCell' = true) (hr : HeapR E G w0 ρ h w) {o : Oper} {vals : List AV} {r : Act1} (hs : operA P h o vals = some r) {ev : Operand → Value} (hv : F2 (VR E ρ) vals (o.op.operands.toList.map ev)) :
    ActR E G w0 ρ h P (execOp ev o) w r ∧ ∀ c, o.op ≠ .defer c := by
  have hnd : ∀ c, o.op ≠ .defer c := by
    intro c hc
    unfold operA at hs
    rw [hc] at hs
    simp [kindOf] at hs
  refine ⟨?_, hnd⟩
  unfold operA at hs
  split at hs
  · split at hs
    · rename_i v hv'
      simp only [Option.some.injEq] at hs; subst hs
      obtain ⟨x, g1, g2⟩ := readA_sound hE hr hv' hv
      exact ⟨.value x, x, w, ρ, g1, .inl rfl, hr, Ext.refl _ _, g2⟩
    · cases hs
  · split at hs
    · rename_i n hn
      cases hb : Nat.blt h.next LIMIT <;> rw [hb] at hs <;> simp only [cond_true, cond_false, reduceCtorEq, Option.some.injEq] at hs
      have hb' : h.next < LIMIT := by simpa [Nat.blt_eq] using hb
      subst hs
      obtain ⟨co, size, v, w1, g1, g2, g3, g4⟩ := makeA_sound (w := w) hE hn hv
      have hw1 : HeapR E G w0 ρ h w1 := by
        rcases g2 with rfl | rfl
        · exact hr
        · exact hr.drew
      have hsz : w1.heap.size = w.heap.size := by rcases g2 with rfl | rfl <;> rfl
      rw [← hsz] at g3 g4
      obtain ⟨k1, k2⟩ := hw1.push hb' (a := n.obj) (o := co) (base := 0) (size := size) (g3.mono (Rho.le_add hr.fresh))
      exact ⟨.value v, v, _, _, g1, .inl rfl, k1, k2, g4 _ _ Rho.add_self⟩
    · cases hs
  · cases hb : Nat.blt h.next LIMIT <;> rw [hb] at hs <;> simp only [cond_true, cond_false, reduceCtorEq] at hs
    have hb' : h.next < LIMIT := by simpa [Nat.blt_eq] using hb
    split at hs
    · rename_i v h' hw
      simp only [Option.some.injEq] at hs; subst hs
      obtain ⟨x, w', ρ', g1, g2, g3, g4⟩ := writeA_sound hE hr hb' hw hv
      exact ⟨.value x, x, w', ρ', g1, .inl rfl, g2, g3, g4⟩
    · rename_i h' hw
      simp only [Option.some.injEq] at hs; subst hs
      obtain ⟨w', ρ', g1, g2, g3⟩ := writeA_sound hE hr hb' hw hv
      exact ⟨.skip, Go.undef, w', ρ', g1, .inr ⟨rfl, rfl⟩, g2, g3, VR.undef⟩
    · cases hs
  · rename_i hk
    cases hb : Nat.blt h.next LIMIT <;> rw [hb] at hs <;> simp only [cond_true, cond_false, reduceCtorEq] at hs
    obtain ⟨dst, op, ty, pos, after, guard⟩ := o
    split at hs
    · rename_i f args
      cases op <;> simp only [kindOf, reduceCtorEq] at hk
      case convert => split at hk <;> cases hk
      case range => split at hk <;> cases hk
      case call c =>
        obtain ⟨callee, cargs, argTypes⟩ := c
        cases callee
        case builtin b => cases b <;> simp at hk
        case invoke rcv m => simp at hk
        case value f =>
          have hv' : F2 (VR E ρ) (‹AV› :: args) (ev f :: cargs.toList.map ev) := by simpa [Op.operands, Call.operands] using hv
          cases hv' with
          | cons h1 h2 =>
            have := callA_sound (P := P) hr hs h1 h2
            have he : ∀ w, (execOp ev { dst := dst, op := .call ⟨.value f, cargs, argTypes⟩, type := ty, pos := pos, after := after, guard := guard }).run P w = (callV (ev f) ⟨cargs.toList.map ev⟩).run P w := fun w => by
              show (do let d ← Deferred.ofValue (ev f) (cargs.map ev); invoke d.target d.args : Sem Next).run P w = _
              have hm : cargs.map ev = ⟨cargs.toList.map ev⟩ := by apply Array.ext'; simp
              rw [hm]; rfl
            cases r with
            | val v h' => obtain ⟨r, x, w', ρ', g1, g2⟩ := this; exact ⟨r, x, w', ρ', by rw [he]; exact g1, g2⟩
            | enter fr => obtain ⟨r, nf, b, a, todo, g1, g2⟩ := this; exact ⟨r, nf, b, a, todo, by rw [he]; exact g1, g2⟩
            | ret f args v => obtain ⟨r, vals, g1, g2⟩ := this; exact ⟨r, vals, by rw [he]; exact g1, g2⟩
    · cases hs
  · cases hs

/-! ### Steps of the model -/
section
variable {b : Frame} {a : Act} {k : List Item} {cs : List Frame} {ops : Array Oper} {i : Nat} {rest : List Nat} {o : Oper}

theorem stepR_val (ho : ops[i]? = some o) (hw : Region.wanted o (yielded ops a.tmps) = true) (hnd : ∀ c, o.op ≠ .defer c) {r : Next} {x : Value} {w' : World} (hr : (execOp a.eval o).run P w = .ok r w')
    (hx : r = .value x ∨ (r = .skip ∧ x = Go.undef)) : step P (lone (b.atR a (.inRegion ops (i :: rest) :: k)) cs w) = .next (lone (b.atR (a.put o.dst x) (.inRegion ops rest :: k)) cs w') := by
  have hg := stepGR_op (P := P) (b := b) (k := k) (cs := cs) (w := w) (rest := rest) ho hw
  rw [Oper.semAt_eq _ _ _ hnd] at hg
  have hfin : ∀ v, (b.atR a (.inRegion ops (i :: rest) :: k)).finish v = b.atR (a.put o.dst v) (.inRegion ops rest :: k) := by
    intro v; rw [Frame.finish_atR, ho]; rfl
  rcases hx with rfl | ⟨rfl, rfl⟩
  · exact step_lone_go (by rw [hg, ← hfin]; simp [stepG.apply, hr])
  · exact step_lone_go (by rw [hg, ← hfin]; simp [stepG.apply, hr])

theorem stepR_enters (ho : ops[i]? = some o) (hw : Region.wanted o (yielded ops a.tmps) = true) (hnd : ∀ c, o.op ≠ .defer c) {r : Next} {nf : Frame} {w' : World} (hr : (execOp a.eval o).run P w = .ok r w')
    (hx : Enters P r nf) : step P (lone (b.atR a (.inRegion ops (i :: rest) :: k)) cs w) = .next (lone nf (b.atR a (.inRegion ops (i :: rest) :: k) :: cs) w') := by
  have hg := stepGR_op (P := P) (b := b) (k := k) (cs := cs) (w := w) (rest := rest) ho hw
  rw [Oper.semAt_eq _ _ _ hnd] at hg
  rcases hx with ⟨f, args, rfl, rfl⟩ | ⟨l, f, tmps, as, bd, rfl, rfl⟩
  · exact step_lone_go (by rw [hg]; simp [stepG.apply, hr, Frame.atR])
  · exact step_lone_go (by rw [hg]; simp [stepG.apply, hr, Frame.atR])
end

end Go.AM
namespace Go.AM
open Go.RowKit (Below)

/-! ### Sets of numbers -/
theorem bit_add (s i k : Nat) : Nat.testBit (Nat.lor s (2 ^ i)) k = (Nat.testBit s k || decide (k = i)) := by
  show Nat.testBit (s ||| 2 ^ i) k = _
  rw [Nat.testBit_or, Nat.testBit_two_pow]
  congr 1
  rw [Bool.eq_iff_iff]; simp [eq_comm]

theorem doneAll_spec {done m : Nat} : doneAll done m = true ↔ ∀ k, Nat.testBit m k = true → Nat.testBit done k = true := by
  unfold doneAll
  rw [Nat.beq_eq]
  constructor
  · intro h k hk
    have : Nat.testBit (m &&& done) k = true := by
      have h' : m &&& done = m := h
      rw [h']; exact hk
    rw [Nat.testBit_and, Bool.and_eq_true] at this
    exact this.2
  · intro h
    apply Nat.eq_of_testBit_eq
    intro k
    show Nat.testBit (m &&& done) k = _
    rw [Nat.testBit_and]
    cases hm : Nat.testBit m k with
    | false => rfl
    | true => rw [h k hm]; rfl

/-! ### The operations of a region, and what comes ahead of each -/
def maskAt (ops : Array Oper) (i : Nat) : Nat := (masks ops).getD i 0

theorem mem_itemsOf {e : Nat × Nat × Oper} : ∀ {os : List Oper} {ms : List Nat} {s : Nat}, e ∈ itemsOf os ms s ↔ ∃ j, os[j]? = some e.2.2 ∧ e.1 = s + j ∧ e.2.1 = ms.getD j 0 := by
  intro os
  induction os with
  | nil => intro ms s; simp [itemsOf]
  | cons o os ih =>
    intro ms s
    simp only [itemsOf, List.mem_cons, ih]
    constructor
    · rintro (rfl | ⟨j, h1, h2, h3⟩)
      · exact ⟨0, rfl, rfl, by cases ms <;> rfl⟩
      · exact ⟨j + 1, by simpa using h1, by omega, by rw [h3]; cases ms <;> simp⟩
    · rintro ⟨j, h1, h2, h3⟩
      cases j with
      | zero =>
        left
        obtain ⟨x, y, z⟩ := e
        simp only [List.getElem?_cons_zero, Option.some.injEq] at h1
        simp only at h2 h3
        subst h1
        rw [h2, h3]
        cases ms <;> rfl
      | succ j => right; exact ⟨j, by simpa using h1, by omega, by rw [h3]; cases ms <;> simp⟩

theorem mem_dItems {ops : Array Oper} {e : Nat × Nat × Oper} : e ∈ dItems ops ↔ ops[e.1]? = some e.2.2 ∧ e.2.1 = maskAt ops e.1 := by
  unfold dItems
  rw [mem_itemsOf]
  constructor
  · rintro ⟨j, h1, h2, h3⟩
    have : e.1 = j := by omega
    subst this
    exact ⟨by simpa using h1, h3⟩
  · rintro ⟨h1, h2⟩
    exact ⟨e.1, by simpa using h1, by omega, h2⟩

theorem itemsOf_sorted : ∀ (os : List Oper) (ms : List Nat) (s : Nat), (itemsOf os ms s).Pairwise (fun a b => a.1 < b.1) ∧ ∀ e ∈ itemsOf os ms s, s ≤ e.1 := by
  intro os
  induction os with
  | nil => intro ms s; exact ⟨.nil, fun e he => by cases he⟩
  | cons o os ih =>
    intro ms s
    obtain ⟨h1, h2⟩ := ih ms.tail (s + 1)
    refine ⟨.cons (fun b hb => ?_) h1, fun e he => ?_⟩
    · have := h2 b hb; show s < b.1; omega
    · cases he with
      | head => exact Nat.le_refl _
      | tail _ he => have := h2 e he; omega

def Writes (ops : Array Oper) (j t : Nat) : Prop := ∃ o, ops[j]? = some o ∧ o.dst = some t

theorem bit_fold {ms : List Nat} {k : Nat} : ∀ (l : List Edge) (s : Nat), Nat.testBit (l.foldl (fun s e => bif Region.binds .any e then Nat.lor s (Nat.lor (2 ^ e.on) (ms.getD e.on 0)) else s) s) k = true →
    Nat.testBit s k = true ∨ ∃ e ∈ l, Region.binds .any e = true ∧ (k = e.on ∨ Nat.testBit (ms.getD e.on 0) k = true) := by
  intro l
  induction l with
  | nil => intro s h; exact .inl h
  | cons e l ih =>
    intro s h
    rw [List.foldl_cons] at h
    rcases ih _ h with h1 | ⟨e', h1, h2⟩
    · cases hb : Region.binds .any e with
      | false => rw [hb] at h1; exact .inl h1
      | true =>
        rw [hb, cond_true] at h1
        have h1' : Nat.testBit (s ||| (2 ^ e.on ||| ms.getD e.on 0)) k = true := h1
        rw [Nat.testBit_or, Nat.testBit_or, Nat.testBit_two_pow] at h1'
        simp only [Bool.or_eq_true, decide_eq_true_eq] at h1'
        rcases h1' with h3 | h3 | h3
        · exact .inl h3
        · exact .inr ⟨e, List.mem_cons_self .., hb, .inl h3.symm⟩
        · exact .inr ⟨e, List.mem_cons_self .., hb, .inr h3⟩
    · exact .inr ⟨e', List.mem_cons_of_mem _ h1, h2⟩

/-- What has been looked at ahead of a region that draws. -/
structure Sound (ops : Array Oper) : Prop where
  back : ∀ (i : Nat) (o : Oper) (e : Edge), ops[i]? = some o → e ∈ o.after → Region.binds .any e = true → e.on < i
  mask : ∀ (i : Nat) (o : Oper) (k : Nat), ops[i]? = some o → Nat.testBit (maskAt ops i) k = true → ∃ e ∈ o.after, Region.binds .any e = true ∧ (k = e.on ∨ Nat.testBit (maskAt ops e.on) k = true)
  own : ∀ (i : Nat) (o : Oper) (d : Nat), ops[i]? = some o → o.dst = some d → d ∉ looksAt ops o
  one : ∀ (i j t : Nat), Writes ops i t → Writes ops j t → i = j
  apart : ∀ (i j t : Nat) (o : Oper), i ≠ j → Writes ops j t → ops[i]? = some o → t ∈ looksAt ops o → Nat.testBit (maskAt ops i) j = true ∨ Nat.testBit (maskAt ops j) i = true

theorem dOk_sound {ops : Array Oper} (hk : dOk ops = true) : Sound ops := by
  unfold dOk at hk
  simp only [List.all_eq_true, Bool.and_eq_true, Bool.or_eq_true, Nat.beq_eq] at hk
  have hin : ∀ {i o}, ops[i]? = some o → (i, maskAt ops i, o) ∈ itemsOf ops.toList (masks ops) 0 := fun {i o} h => by
    have := (mem_dItems (ops := ops) (e := (i, maskAt ops i, o))).2 ⟨h, rfl⟩
    exact this
  have hedge : ∀ {i o}, ops[i]? = some o → edgesOk (masks ops) (i, maskAt ops i, o) = true := fun h => (hk _ (hin h)).1.1.1
  refine ⟨?_, ?_, ?_, ?_, ?_⟩
  · intro i o e hi he hb
    have h1 := hedge hi
    unfold edgesOk at h1
    simp only [Bool.and_eq_true, List.all_eq_true, Bool.or_eq_true, Bool.not_eq_true'] at h1
    rcases h1.1 e (by simpa using he) with h2 | h2
    · rw [hb] at h2; cases h2
    · simpa [Nat.blt_eq] using h2
  · intro i o k hi hb
    have h1 := hedge hi
    unfold edgesOk at h1
    simp only [Bool.and_eq_true, Nat.beq_eq] at h1
    rw [h1.2] at hb
    rcases bit_fold _ _ hb with h2 | ⟨e, h2, h3⟩
    · simp at h2
    · exact ⟨e, by simpa using h2, h3⟩
  · intro i o d hi hd hm
    have h1 := (hk _ (hin hi)).1.2
    simp only [hd, Bool.not_eq_true'] at h1
    rw [List.any_eq_false] at h1
    exact h1 d hm (by simp)
  · intro i j t hi hj
    obtain ⟨o, h1, h2⟩ := hi
    obtain ⟨o', h3, h4⟩ := hj
    rcases (hk _ (hin h1)).2 _ (hin h3) with h5 | h5
    · exact h5
    · unfold apartOk at h5
      simp only [h2, h4, Bool.and_eq_true, Bool.not_eq_true'] at h5
      have := h5.1
      simp at this
  · intro i j t o hne hw hi hl
    obtain ⟨o', h3, h4⟩ := hw
    rcases (hk _ (hin h3)).2 _ (hin hi) with h5 | h5
    · exact absurd h5.symm hne
    · unfold apartOk at h5
      simp only [h4, Bool.and_eq_true, Bool.or_eq_true, Bool.not_eq_true'] at h5
      rcases h5.2 with (h6 | h6) | h6
      · rw [List.any_eq_false] at h6
        exact absurd (by simp) (h6 t hl)
      · exact .inl h6
      · exact .inr h6

/-! ### Orders -/
/-- A list in which each operation can go where it stands. -/
inductive Lin (ops : Array Oper) : Array Bool → List Nat → Prop where
  | nil {ls : Array Bool} (h : Region.ready .any ops ls = []) : Lin ops ls []
  | cons {ls : Array Bool} {i : Nat} {l : List Nat} (h : i ∈ Region.ready .any ops ls) (t : Lin ops (ls.setIfInBounds i true) l) : Lin ops ls (i :: l)

def unlisted (n : Nat) (ls : Array Bool) : List Nat := (List.range n).filter fun i => !ls.getD i true

theorem unlisted_set {n i : Nat} {ls : Array Bool} (hi : i < n) (hl : ls.getD i true = false) : (unlisted n (ls.setIfInBounds i true)).length < (unlisted n ls).length := by
  have hsz : i < ls.size := by
    rcases Nat.lt_or_ge i ls.size with h | h
    · exact h
    · simp [Array.getElem?_eq_none h] at hl
  have he : unlisted n (ls.setIfInBounds i true) = (unlisted n ls).filter (fun j => decide (j ≠ i)) := by
    unfold unlisted
    rw [List.filter_filter]
    apply List.filter_congr
    intro j _
    by_cases hj : j = i
    · subst hj; simp [hsz]
    · rw [getD_set_ne true (Ne.symm hj)]
      simp [hj]
  rw [he]
  apply List.length_filter_lt_length_iff_exists.2
  exact ⟨i, List.mem_filter.2 ⟨List.mem_range.2 hi, by simp [hl]⟩, by simp⟩

theorem lin_go {ops : Array Oper} : ∀ (fuel t : Nat) (ls : Array Bool), (unlisted ops.size ls).length ≤ fuel → Lin ops ls (Region.linearise.go .any ops fuel t ls []) := by
  intro fuel
  induction fuel with
  | zero =>
    intro t ls hl
    refine .nil ?_
    cases hr : Region.ready .any ops ls with
    | nil => rfl
    | cons i r =>
      have hm : i ∈ Region.ready .any ops ls := by rw [hr]; exact List.mem_cons_self ..
      obtain ⟨h1, o, h2, _⟩ := mem_ready.1 hm
      have : i ∈ unlisted ops.size ls := List.mem_filter.2 ⟨List.mem_range.2 (Array.getElem?_eq_some_iff.1 h2).1, by simp [h1]⟩
      have := List.length_pos_of_mem this
      omega
  | succ fuel ih =>
    intro t ls hl
    show Lin ops ls (match (Region.ready .any ops ls)[t % (Region.ready .any ops ls).length]? with
      | some i => Region.linearise.go .any ops fuel (t / (Region.ready .any ops ls).length) (ls.setIfInBounds i true) [i]
      | none => [].reverse)
    cases hi : (Region.ready .any ops ls)[t % (Region.ready .any ops ls).length]? with
    | none =>
      refine .nil ?_
      cases hr : Region.ready .any ops ls with
      | nil => rfl
      | cons x xs =>
        rw [hr] at hi
        have hlt : t % (x :: xs).length < (x :: xs).length := Nat.mod_lt _ (by simp)
        rw [List.getElem?_eq_getElem hlt] at hi
        cases hi
    | some i =>
      have hm := List.mem_of_getElem? hi
      obtain ⟨h1, o, h2, _⟩ := mem_ready.1 hm
      simp only []
      rw [linearise_go_acc, List.reverse_singleton, List.singleton_append]
      refine .cons hm (ih _ _ ?_)
      have := unlisted_set (n := ops.size) (Array.getElem?_eq_some_iff.1 h2).1 h1
      omega

theorem lin_schedule {ops : Array Oper} (t : Nat) : Lin ops (Array.replicate ops.size false) (Region.schedule true ops t) := by
  unfold Region.schedule Region.linearise
  simp only [Bool.true_or, if_true]
  refine lin_go _ _ _ ?_
  refine Nat.le_trans (List.length_filter_le _ _) ?_
  simp

/-- As long as one operation has not gone, one can go. -/
theorem ready_some {ops : Array Oper} (hs : Sound ops) {ls : Array Bool} (hsz : ls.size = ops.size) : ∀ (n i : Nat), i ≤ n → i < ops.size → ls.getD i false = false → Region.ready .any ops ls ≠ [] := by
  intro n
  induction n with
  | zero =>
    intro i hi hlt hl hr
    have : i = 0 := by omega
    subst this
    have hm : 0 ∈ Region.ready .any ops ls := mem_ready.2 ⟨by simp only [Array.getD_eq_getD_getElem?] at hl ⊢; rw [Array.getElem?_eq_getElem (by omega)] at hl ⊢; exact hl, ops[0], by simp [hlt], fun e he hb => absurd (hs.back 0 ops[0] e (by simp [hlt]) he hb) (Nat.not_lt_zero _)⟩
    rw [hr] at hm; cases hm
  | succ n ih =>
    intro i hi hlt hl hr
    by_cases hall : ∀ e ∈ ops[i].after, Region.binds .any e = true → ls.getD e.on false = true
    · have hm : i ∈ Region.ready .any ops ls := mem_ready.2 ⟨by simp only [Array.getD_eq_getD_getElem?] at hl ⊢; rw [Array.getElem?_eq_getElem (by omega)] at hl ⊢; exact hl, ops[i], by simp [hlt], hall⟩
      rw [hr] at hm; cases hm
    · simp only [Classical.not_forall] at hall
      obtain ⟨e, he, hb, hn⟩ := hall
      have hlt' := hs.back i ops[i] e (by simp [hlt]) he hb
      exact ih e.on (by omega) (by omega) (by simpa using hn) hr

end Go.AM
namespace Go.AM
open Go.RowKit (Below)
variable {E : Nat → Value} {G : Nat} {w0 : World} {ρ : Rho} {h : Heap} {w : World} {P : Program}

/-! ### What a step leaves alone of the objects that have no place yet -/
structure ExtN (N : Nat) (ρ : Rho) (h : Heap) (ρ' : Rho) (h' : Heap) : Prop where
  le : ρ.le ρ'
  next : h.next ≤ h'.next
  ghost : ∀ b, b < N → ρ b = none → ρ' b = none ∧ h'.at b = h.at b

theorem Ext.toN {ρ' : Rho} {h' : Heap} {N : Nat} (e : Ext ρ h ρ' h') (hN : N ≤ h.next) : ExtN N ρ h ρ' h' := ⟨e.le, e.next, fun b hb => e.ghost b (by omega)⟩
theorem ExtN.refl (N : Nat) (ρ : Rho) (h : Heap) : ExtN N ρ h ρ h := ⟨Rho.le_refl ρ, Nat.le_refl _, fun _ _ e => ⟨e, rfl⟩⟩
theorem ExtN.trans {N : Nat} {ρ' ρ'' : Rho} {h' h'' : Heap} (a : ExtN N ρ h ρ' h') (b : ExtN N ρ' h' ρ'' h'') : ExtN N ρ h ρ'' h'' :=
  ⟨Rho.le_trans a.le b.le, Nat.le_trans a.next b.next, fun x hx e => by
    obtain ⟨e1, e2⟩ := a.ghost x hx e
    obtain ⟨e3, e4⟩ := b.ghost x hx e1
    exact ⟨e3, e4.trans e2⟩⟩
theorem ExtN.mono {N N' : Nat} {ρ' : Rho} {h' : Heap} (e : ExtN N ρ h ρ' h') (hN : N' ≤ N) : ExtN N' ρ h ρ' h' := ⟨e.le, e.next, fun b hb => e.ghost b (by omega)⟩

/-- An object gets its place. -/
theorem HeapR.adopt (hr : HeapR E G w0 ρ h w) {b : Nat} (hb : b < h.next) (hn : ρ b = none) {o : Obj} {size : Nat} (ho : ObjR E ρ (h.at b) ⟨w.heap.size, 0, size⟩ o) :
    HeapR E G w0 (ρ.add b ⟨w.heap.size, 0, size⟩) h (w.alloc o) := by
  have hle : ρ.le (ρ.add b ⟨w.heap.size, 0, size⟩) := Rho.le_add hn
  refine ⟨?_, ?_, ?_, ?_, ?_, hr.below.alloc hr.size o, hr.lim⟩
  · intro x l e
    by_cases hx : x = b
    · subst hx
      rw [Rho.add_self] at e
      simp only [Option.some.injEq] at e; subst e
      exact ⟨o, heap_alloc_self w o, ho.mono hle⟩
    · rw [Rho.add_ne hx] at e
      obtain ⟨o', h1, h2⟩ := hr.obj x l e
      exact ⟨o', by rw [heap_alloc_lt _ _ (hr.blk_lt e)]; exact h1, h2.mono hle⟩
  · intro x y l l' e e' f f' hne
    by_cases hx : x = b
    · subst hx
      rw [Rho.add_self] at e
      simp only [Option.some.injEq] at e; subst e
      rw [Rho.add_ne (Ne.symm hne)] at e'
      have := hr.blk_lt e'
      simp only [ne_eq]; omega
    · by_cases hy : y = b
      · subst hy
        rw [Rho.add_self] at e'
        simp only [Option.some.injEq] at e'; subst e'
        rw [Rho.add_ne hx] at e
        have := hr.blk_lt e
        simp only [ne_eq]; omega
      · rw [Rho.add_ne hx] at e; rw [Rho.add_ne hy] at e'
        exact hr.sep x y l l' e e' f f' hne
  · intro x l e
    by_cases hx : x = b
    · subst hx; exact hb
    · rw [Rho.add_ne hx] at e; exact hr.dom x l e
  · intro x l e f f'
    by_cases hx : x = b
    · subst hx
      rw [Rho.add_self] at e
      simp only [Option.some.injEq] at e; subst e
      exact hr.size
    · rw [Rho.add_ne hx] at e; exact hr.low x l e f f'
  · intro x hx
    obtain ⟨l, e, h1⟩ := hr.glob x hx
    exact ⟨l, hle _ _ e, h1⟩

/-- An object without a place. -/
theorem HeapR.pushGhost (hr : HeapR E G w0 ρ h w) (hn : h.next < LIMIT) (a : AObj) : HeapR E G w0 ρ (h.push a) w ∧ Ext ρ h ρ (h.push a) := by
  have hat : ∀ b, b < h.next → (h.push a).at b = h.at b := fun b hb => by rw [Heap.at_push _ _ _ hn, if_neg (by omega)]
  refine ⟨⟨?_, ?_, ?_, ?_, hr.glob, hr.below, by rw [Heap.next_push]; omega⟩, Rho.le_refl _, by rw [Heap.next_push]; omega, fun b hb e => ⟨e, hat b hb⟩⟩
  · intro b l e; rw [hat b (hr.dom b l e)]; exact hr.obj b l e
  · intro b b' l l' e e' f f'
    rw [hat b (hr.dom b l e)] at f; rw [hat b' (hr.dom b' l' e')] at f'
    exact hr.sep b b' l l' e e' f f'
  · intro b l e; rw [Heap.next_push]; have := hr.dom b l e; omega
  · intro b l e f f'
    rw [hat b (hr.dom b l e)] at f f'
    exact hr.low b l e f f'

/-! ### Reads that read again -/
theorem readA_still {o : Oper} (hm : mayChange o.op = false) (h h' : Heap) (vals : List AV) : readA P h o vals = readA P h' o vals := by
  obtain ⟨dst, op, ty, pos, after, guard⟩ := o
  cases op <;> simp only [mayChange, Bool.true_eq_false] at hm
  case slice => rcases vals with _ | ⟨v1, vs⟩ <;> rfl
  case makeFunc => rfl
  case build => rfl
  all_goals
    rcases vals with _ | ⟨v1, _ | ⟨v2, _ | ⟨v3, _ | ⟨v4, vs⟩⟩⟩⟩
    all_goals first | rfl | (cases v1 <;> rfl)

theorem avEq_eq : ∀ {a b : AV}, avEq a b = true → a = b := by
  intro a
  induction a with
  | nil => intro b he; cases b <;> simp_all [avEq]
  | cons x y ih1 ih2 =>
    intro b he
    cases b <;> simp only [avEq, Bool.and_eq_true, Bool.false_eq_true] at he
    rw [ih1 he.1, ih2 he.2]
  | junk => intro b he; cases b <;> simp_all [avEq]
  | bool x => intro b he; cases b <;> simp_all [avEq]
  | int k n =>
    intro b he
    cases b <;> simp only [avEq, Bool.and_eq_true, Bool.false_eq_true, intEq_eq, decide_eq_true_eq, beq_iff_eq] at he
    rw [he.1, he.2]
  | str l n => intro b he; cases b <;> simp_all [avEq]
  | pnil => intro b he; cases b <;> simp_all [avEq]
  | ptr l n => intro b he; cases b <;> simp_all [avEq]
  | snil => intro b he; cases b <;> simp_all [avEq]
  | slice b1 b2 b3 b4 b5 => intro b he; cases b <;> simp_all [avEq]
  | eslice => intro b he; cases b <;> simp_all [avEq]
  | mnil => intro b he; cases b <;> simp_all [avEq]
  | map n => intro b he; cases b <;> simp_all [avEq]
  | fnil => intro b he; cases b <;> simp_all [avEq]
  | func f x y ih1 ih2 =>
    intro b he
    cases b with
    | func f' x' y' =>
      cases f <;> cases f' <;> simp only [avEq, Bool.and_eq_true, Bool.false_eq_true, Nat.beq_eq] at he
      rw [he.1.1, ih1 he.1.2, ih2 he.2]
    | _ => cases f <;> simp [avEq] at he
  | yield n => intro b he; cases b <;> simp_all [avEq]
  | inil => intro b he; cases b <;> simp_all [avEq]
  | iface t x ih =>
    intro b he
    cases b <;> simp only [avEq, Bool.and_eq_true, Bool.false_eq_true, Nat.beq_eq] at he
    rw [he.1, ih he.2]
  | agg x ih =>
    intro b he
    cases b <;> simp only [avEq, Bool.false_eq_true] at he
    rw [ih he]
  | tup x ih =>
    intro b he
    cases b <;> simp only [avEq, Bool.false_eq_true] at he
    rw [ih he]
  | ext n => intro b he; cases b <;> simp_all [avEq]

theorem stillOk_mem {pend : List Pend} (hs : stillOk P h pend = true) {p : Pend} (hp : p ∈ pend) : readA P h p.o p.vals = some p.v := by
  induction pend with
  | nil => cases hp
  | cons q qs ih =>
    simp only [stillOk, Bool.and_eq_true] at hs
    cases hp with
    | head =>
      cases hq : readA P h p.o p.vals with
      | none => rw [hq] at hs; simp at hs
      | some v => rw [hq] at hs; rw [avEq_eq hs.1]
    | tail _ hp => exact ih hs.2 hp

theorem mem_dropDone {m : Nat} {p : Pend} : ∀ {pend : List Pend}, p ∈ pend → Nat.testBit m p.ix = false → p ∈ dropDone m pend := by
  intro pend
  induction pend with
  | nil => intro hp; cases hp
  | cons q qs ih =>
    intro hp hm
    simp only [dropDone]
    cases hp with
    | head => rw [hm]; exact List.mem_cons_self ..
    | tail _ hp =>
      cases Nat.testBit m q.ix with
      | true => exact ih hp hm
      | false => exact List.mem_cons_of_mem _ (ih hp hm)

/-! ### A region that draws, half gone -/
/-- It writes one of these. -/
def InMask (ops : Array Oper) (i t : Nat) : Prop := ∃ j, Nat.testBit (maskAt ops i) j = true ∧ Writes ops j t

/-- An operation that is reckoned and has not gone yet. -/
def LightR (P : Program) (g : Nat) (ops : Array Oper) (env0 env : T AV) (h : Heap) (ρ : Rho) (size : Nat) (pend : List Pend) (gh : Nat → Option Nat) (i : Nat) : Prop :=
  ∃ (o : Oper) (ε : T AV) (v : AV), ops[i]? = some o ∧
    (∀ t, t ∈ looksAt ops o → (InMask ops i t → envGet ε t = envGet env t) ∧ (¬ InMask ops i t → envGet ε t = envGet env0 t)) ∧
    (∀ d, o.dst = some d → envGet env d = v ∧ d < size) ∧
    ((wantedA ops ε o = some false ∧ v = AV.undef) ∨
     (wantedA ops ε o = some true ∧ ∃ vals, evalAll g ε o.op.operands.toList = some vals ∧
        ((kindOf P o.op = .read ∧ mayChange o.op = true ∧ (⟨i, o, vals, v⟩ : Pend) ∈ pend) ∨
         (kindOf P o.op = .read ∧ ∀ h, readA P h o vals = some v) ∨
         (kindOf P o.op = .make ∧ ∃ n b, makeA P o vals = some n ∧ v = n.val b ∧ gh i = some b ∧ ρ b = none ∧ h.at b = n.obj))))

structure DrawR (E : Nat → Value) (P : Program) (g : Nat) (ρ : Rho) (h : Heap) (lo hi : Nat) (gh : Nat → Option Nat) (d : DReg) (env : T AV) (tmps : Array Value) (ls : Array Bool) (l : List Nat) : Prop where
  ok : Sound d.ops
  lin : Lin d.ops ls l
  lsz : ls.size = d.ops.size
  sub : ∀ i, ls.getD i false = true → Nat.testBit d.done i = true
  closed : ∀ i k, ls.getD i false = true → Nat.testBit (maskAt d.ops i) k = true → ls.getD k false = true
  dlt : ∀ i, Nat.testBit d.done i = true → i < d.ops.size
  dclosed : ∀ i k, Nat.testBit d.done i = true → Nat.testBit (maskAt d.ops i) k = true → Nat.testBit d.done k = true
  todo1 : ∀ e, e ∈ dItems d.ops → Nat.testBit d.done e.1 = true ∨ e ∈ d.todo
  todo2 : ∀ e, e ∈ d.todo → e ∈ dItems d.ops ∧ Nat.testBit d.done e.1 = false
  todo3 : d.todo.Pairwise (fun a b => a.1 < b.1)
  keep : ∀ t, (∀ j, Nat.testBit d.done j = true → ¬ Writes d.ops j t) → envGet env t = envGet d.env0 t
  in1 : ∀ t j, ls.getD j false = true → Writes d.ops j t → VR E ρ (envGet env t) (tmps.getD t Go.undef)
  in0 : ∀ t, (∀ j, ls.getD j false = true → ¬ Writes d.ops j t) → VR E ρ (envGet d.env0 t) (tmps.getD t Go.undef)
  ghost : ∀ i b, gh i = some b → lo ≤ b ∧ b < hi
  inj : ∀ i j b, gh i = some b → gh j = some b → i = j
  light : ∀ i, Nat.testBit d.done i = true → ls.getD i false = false → LightR P g d.ops d.env0 env h ρ tmps.size d.pend gh i

theorem ready_unl {ops : Array Oper} {ls : Array Bool} (hsz : ls.size = ops.size) {i : Nat} (hi : i ∈ Region.ready .any ops ls) : ls.getD i false = false ∧ i < ops.size := by
  obtain ⟨h1, o, h2, _⟩ := mem_ready.1 hi
  have hlt := (Array.getElem?_eq_some_iff.1 h2).1
  refine ⟨?_, hlt⟩
  simp only [Array.getD_eq_getD_getElem?] at h1 ⊢
  rw [Array.getElem?_eq_getElem (by omega)] at h1 ⊢
  exact h1

section
variable {g lo hi : Nat} {gh : Nat → Option Nat} {d : DReg} {env : T AV} {tmps : Array Value} {ls : Array Bool} {l : List Nat}

/-- What comes ahead of the next has gone. -/
theorem DrawR.ahead (hd : DrawR E P g ρ h lo hi gh d env tmps ls l) {i : Nat} (hi' : i ∈ Region.ready .any d.ops ls) {k : Nat} (hk : Nat.testBit (maskAt d.ops i) k = true) : ls.getD k false = true := by
  obtain ⟨_, o, h2, h3⟩ := mem_ready.1 hi'
  obtain ⟨e, he, hb, hk'⟩ := hd.ok.mask i o k h2 hk
  have := h3 e he hb
  rcases hk' with rfl | hk'
  · exact this
  · exact hd.closed _ _ this hk'

/-- One goes: it had been reckoned. -/
theorem DrawR.went {i : Nat} (hd : DrawR E P g ρ h lo hi gh d env tmps ls (i :: l)) {o : Oper} (ho : d.ops[i]? = some o) (hdone : Nat.testBit d.done i = true) {ρ' : Rho} (hle : ρ.le ρ')
    (hkeep : ∀ j b, j ≠ i → gh j = some b → ρ b = none → ρ' b = none) {a : Act} (ha : a.tmps = tmps) {x : Value} (hx : ∀ t, o.dst = some t → VR E ρ' (envGet env t) x ∧ t < tmps.size) :
    DrawR E P g ρ' h lo hi gh d env (a.put o.dst x).tmps (ls.setIfInBounds i true) l := by
  subst ha
  have hrd : i ∈ Region.ready .any d.ops ls := by cases hd.lin with | cons h _ => exact h
  have hlin : Lin d.ops (ls.setIfInBounds i true) l := by cases hd.lin with | cons _ t => exact t
  obtain ⟨hun, hilt⟩ := ready_unl hd.lsz hrd
  have hset : ∀ j, (ls.setIfInBounds i true).getD j false = true ↔ j = i ∨ ls.getD j false = true := by
    intro j
    by_cases hj : j = i
    · subst hj
      have : j < ls.size := by rw [hd.lsz]; exact hilt
      simp [this]
    · rw [getD_set_ne false (Ne.symm hj)]; simp [hj]
  have hset0 : ∀ j, (ls.setIfInBounds i true).getD j false = false → j ≠ i ∧ ls.getD j false = false := by
    intro j hj
    constructor
    · intro he; have := (hset j).2 (.inl he); rw [hj] at this; cases this
    · cases hq : ls.getD j false with
      | false => rfl
      | true => have := (hset j).2 (.inr hq); rw [hj] at this; cases this
  have hwi : ∀ t, Writes d.ops i t ↔ o.dst = some t := by
    intro t
    constructor
    · rintro ⟨o', h1, h2⟩; rw [ho] at h1; simp only [Option.some.injEq] at h1; subst h1; exact h2
    · intro h1; exact ⟨o, ho, h1⟩
  have hget : ∀ t, o.dst ≠ some t → (a.put o.dst x).tmps.getD t Go.undef = a.tmps.getD t Go.undef := by
    intro t ht
    cases hq : o.dst with
    | none => rfl
    | some d' =>
      have hne : t ≠ d' := fun he => ht (by rw [hq, he])
      have hlt := (hx d' hq).2
      show (a.tmps.setIfInBounds d' x).getD t Go.undef = _
      rw [getD_set _ _ _ _ hlt, if_neg hne]
  have hgetd : ∀ t, o.dst = some t → (a.put o.dst x).tmps.getD t Go.undef = x := by
    intro t ht
    rw [ht]
    show (a.tmps.setIfInBounds t x).getD t Go.undef = _
    rw [getD_set _ _ _ _ (hx t ht).2, if_pos rfl]
  refine { ok := hd.ok, lin := hlin, lsz := by simp [hd.lsz], sub := ?_, closed := ?_, dlt := hd.dlt, dclosed := hd.dclosed, todo1 := hd.todo1, todo2 := hd.todo2, todo3 := hd.todo3, keep := hd.keep, in1 := ?_, in0 := ?_, ghost := hd.ghost, inj := hd.inj, light := ?_ }
  · intro j hj
    rcases (hset j).1 hj with rfl | hj
    · exact hdone
    · exact hd.sub j hj
  · intro j k hj hk
    rcases (hset j).1 hj with rfl | hj
    · exact (hset k).2 (.inr (hd.ahead hrd hk))
    · exact (hset k).2 (.inr (hd.closed j k hj hk))
  · intro t j hj hw
    by_cases ht : o.dst = some t
    · rw [hgetd t ht]; exact (hx t ht).1
    · rw [hget t ht]
      rcases (hset j).1 hj with rfl | hj
      · exact absurd ((hwi t).1 hw) ht
      · exact VR.mono hle (hd.in1 t j hj hw)
  · intro t hno
    have ht : o.dst ≠ some t := fun he => hno i ((hset i).2 (.inl rfl)) ((hwi t).2 he)
    rw [hget t ht]
    exact VR.mono hle (hd.in0 t fun j hj => hno j ((hset j).2 (.inr hj)))
  · intro j hj hl
    obtain ⟨hne, hl'⟩ := hset0 j hl
    obtain ⟨o', ε, v, h1, h2, h3, h4⟩ := hd.light j hj hl'
    rw [put_size]
    refine ⟨o', ε, v, h1, h2, h3, ?_⟩
    rcases h4 with h4 | ⟨h4, vals, h5, h6⟩
    · exact .inl h4
    · refine .inr ⟨h4, vals, h5, ?_⟩
      rcases h6 with h6 | h6 | ⟨h6, n, b, q1, q2, q3, q4, q5⟩
      · exact .inl h6
      · exact .inr (.inl h6)
      · exact .inr (.inr ⟨h6, n, b, q1, q2, q3, hkeep j b hne q3 q4, q5⟩)

/-- What a reckoned operation looks at is there. -/
theorem DrawR.sees (hd : DrawR E P g ρ h lo hi gh d env tmps ls l) {i : Nat} (hrd : i ∈ Region.ready .any d.ops ls) {o : Oper} (ho : d.ops[i]? = some o) {ε : T AV}
    (hε : ∀ t, t ∈ looksAt d.ops o → (InMask d.ops i t → envGet ε t = envGet env t) ∧ (¬ InMask d.ops i t → envGet ε t = envGet d.env0 t)) :
    ∀ t, t ∈ looksAt d.ops o → VR E ρ (envGet ε t) (tmps.getD t Go.undef) := by
  intro t ht
  obtain ⟨hun, _⟩ := ready_unl hd.lsz hrd
  obtain ⟨h1, h2⟩ := hε t ht
  by_cases hm : InMask d.ops i t
  · rw [h1 hm]
    obtain ⟨j, hj, hw⟩ := hm
    exact hd.in1 t j (hd.ahead hrd hj) hw
  · rw [h2 hm]
    refine hd.in0 t fun j hj hw => ?_
    have hne : i ≠ j := fun he => by subst he; rw [hun] at hj; cases hj
    rcases hd.ok.apart i j t o hne hw ho ht with h3 | h3
    · exact hm ⟨j, h3, hw⟩
    · have := hd.closed j i hj h3
      rw [hun] at this; cases this

theorem mem_looksAt {ops : Array Oper} {o : Oper} {t : Nat} (ht : t ∈ tmpsOf o.op.operands.toList) : t ∈ looksAt ops o := by
  unfold looksAt
  split
  · exact ht
  · split
    · split
      · exact List.mem_cons_of_mem _ ht
      · exact ht
    · exact ht

/-- The next of the order goes, if it has been reckoned. -/
theorem DrawR.catchOne (hE : ∀ i, (E i).oneCell' = true) (hg : ∀ n, Nat.testBit g n = true → Nat.testBit G n = true) (hr : HeapR E G w0 ρ h w) {a : Act} {i : Nat} (hd : DrawR E P g ρ h lo hi gh d env a.tmps ls (i :: l)) (hhi : hi ≤ h.next) (hst : stillOk P h d.pend = true)
    (hdone : Nat.testBit d.done i = true) (b : Frame) (k : List Item) (cs : List Frame) :
    ∃ a' w' ρ', step P (lone (b.atR a (.inRegion d.ops (i :: l) :: k)) cs w) = .next (lone (b.atR a' (.inRegion d.ops l :: k)) cs w') ∧ HeapR E G w0 ρ' h w' ∧ ExtN lo ρ h ρ' h ∧ a'.defers = a.defers ∧
      DrawR E P g ρ' h lo hi gh d env a'.tmps (ls.setIfInBounds i true) l ∧ a'.tmps.size = a.tmps.size := by
  have hrd : i ∈ Region.ready .any d.ops ls := by cases hd.lin with | cons h _ => exact h
  obtain ⟨hun, hilt⟩ := ready_unl hd.lsz hrd
  obtain ⟨o, ε, v, ho, hε, hdst, hcase⟩ := hd.light i hdone hun
  have hsee := hd.sees hrd ho hε
  rcases hcase with ⟨hw, rfl⟩ | ⟨hw, vals, hev, hcase⟩
  · have hwant := wanted_sound hsee hw
    have hs := stepR_op_skip (P := P) (b := b) (a := a) (k := k) (cs := cs) (w := w) (ops := d.ops) (i := i) (rest := l) (by rw [ho]; exact hwant)
    rw [ho] at hs
    refine ⟨a.put o.dst Go.undef, w, ρ, hs, hr, .refl _ _ _, put_defers _ _ _, ?_, put_size _ _ _⟩
    exact hd.went ho hdone (Rho.le_refl _) (fun _ _ _ _ e => e) rfl (fun t ht => ⟨by rw [(hdst t ht).1]; exact VR.undef, (hdst t ht).2⟩)
  · have hwant := wanted_sound hsee hw
    have hvals := evalAll_sound (a := a) hg hr (fun t ht => hsee t (mem_looksAt ht)) hev
    have hread : ∀ (hk : kindOf P o.op = .read) (hq : readA P h o vals = some v), ∃ a' w' ρ', step P (lone (b.atR a (.inRegion d.ops (i :: l) :: k)) cs w) = .next (lone (b.atR a' (.inRegion d.ops l :: k)) cs w') ∧ HeapR E G w0 ρ' h w' ∧ ExtN lo ρ h ρ' h ∧ a'.defers = a.defers ∧
        DrawR E P g ρ' h lo hi gh d env a'.tmps (ls.setIfInBounds i true) l ∧ a'.tmps.size = a.tmps.size := by
      intro hk hq
      obtain ⟨x, g1, g2⟩ := readA_sound hE hr hq hvals
      have hnd : ∀ c, o.op ≠ .defer c := by intro c hc; rw [hc] at hk; simp [kindOf] at hk
      refine ⟨a.put o.dst x, w, ρ, stepR_val ho hwant hnd g1 (.inl rfl), hr, .refl _ _ _, put_defers _ _ _, ?_, put_size _ _ _⟩
      exact hd.went ho hdone (Rho.le_refl _) (fun _ _ _ _ e => e) rfl (fun t ht => ⟨by rw [(hdst t ht).1]; exact g2, (hdst t ht).2⟩)
    rcases hcase with ⟨hk, _, hp⟩ | ⟨hk, hq⟩ | ⟨hk, n, bb, q1, rfl, q3, q4, q5⟩
    · exact hread hk (stillOk_mem hst hp)
    · exact hread hk (hq h)
    · have hnd : ∀ c, o.op ≠ .defer c := by intro c hc; rw [hc] at hk; simp [kindOf] at hk
      obtain ⟨co, size, x, w1, g1, g2, g3, g4⟩ := makeA_sound (w := w) hE q1 hvals
      have hw1 : HeapR E G w0 ρ h w1 := by
        rcases g2 with rfl | rfl
        · exact hr
        · exact hr.drew
      have hsz : w1.heap.size = w.heap.size := by rcases g2 with rfl | rfl <;> rfl
      rw [← hsz] at g3 g4
      obtain ⟨hb1, hb2⟩ := hd.ghost i bb q3
      have had := hw1.adopt (b := bb) (by omega) q4 (o := co) (size := size) (by rw [q5]; exact g3)
      have hle : ρ.le (ρ.add bb ⟨w1.heap.size, 0, size⟩) := Rho.le_add q4
      refine ⟨a.put o.dst x, _, _, stepR_val ho hwant hnd g1 (.inl rfl), had, ⟨hle, Nat.le_refl _, fun c hc e => ⟨by rw [Rho.add_ne (by omega)]; exact e, rfl⟩⟩, put_defers _ _ _, ?_, put_size _ _ _⟩
      refine hd.went ho hdone hle (fun j c hj hc e => ?_) rfl (fun t ht => ⟨by rw [(hdst t ht).1]; exact g4 _ _ Rho.add_self, (hdst t ht).2⟩)
      have hne : c ≠ bb := fun he => by subst he; exact hj (hd.inj j i c hc q3)
      rw [Rho.add_ne hne]; exact e
end

end Go.AM
namespace Go.AM
open Go.RowKit (Below)
variable {E : Nat → Value} {G : Nat} {w0 : World} {ρ : Rho} {h : Heap} {w : World} {P : Program}
variable {g lo hi : Nat} {gh : Nat → Option Nat} {d : DReg} {env : T AV} {tmps : Array Value} {ls : Array Bool} {l : List Nat}

/-! ### What is under way behind a step of others -/
theorem DrawR.ext (hd : DrawR E P g ρ h lo hi gh d env tmps ls l) {ρ' : Rho} {h' : Heap} (he : ExtN hi ρ h ρ' h') : DrawR E P g ρ' h' lo hi gh d env tmps ls l := by
  refine { ok := hd.ok, lin := hd.lin, lsz := hd.lsz, sub := hd.sub, closed := hd.closed, dlt := hd.dlt, dclosed := hd.dclosed, todo1 := hd.todo1, todo2 := hd.todo2, todo3 := hd.todo3, keep := hd.keep,
           in1 := fun t j hj hw => VR.mono he.le (hd.in1 t j hj hw), in0 := fun t hno => VR.mono he.le (hd.in0 t hno), ghost := hd.ghost, inj := hd.inj, light := ?_ }
  intro j hj hl
  obtain ⟨o', ε, v, h1, h2, h3, h4⟩ := hd.light j hj hl
  refine ⟨o', ε, v, h1, h2, h3, ?_⟩
  rcases h4 with h4 | ⟨h4, vals, h5, h6⟩
  · exact .inl h4
  · refine .inr ⟨h4, vals, h5, ?_⟩
    rcases h6 with h6 | h6 | ⟨h6, n, b, q1, q2, q3, q4, q5⟩
    · exact .inl h6
    · exact .inr (.inl h6)
    · obtain ⟨e1, e2⟩ := he.ghost b (hd.ghost j b q3).2 q4
      exact .inr (.inr ⟨h6, n, b, q1, q2, q3, e1, by rw [e2]; exact q5⟩)

/-- Values that need not be looked at again are dropped. -/
theorem DrawR.drop (hd : DrawR E P g ρ h lo hi gh d env tmps ls l) {m : Nat} (hm : ∀ k, Nat.testBit m k = true → ls.getD k false = true) :
    DrawR E P g ρ h lo hi gh { d with pend := dropDone m d.pend } env tmps ls l := by
  refine { ok := hd.ok, lin := hd.lin, lsz := hd.lsz, sub := hd.sub, closed := hd.closed, dlt := hd.dlt, dclosed := hd.dclosed, todo1 := hd.todo1, todo2 := hd.todo2, todo3 := hd.todo3, keep := hd.keep,
           in1 := hd.in1, in0 := hd.in0, ghost := hd.ghost, inj := hd.inj, light := ?_ }
  intro j hj hl
  obtain ⟨o', ε, v, h1, h2, h3, h4⟩ := hd.light j hj hl
  refine ⟨o', ε, v, h1, h2, h3, ?_⟩
  rcases h4 with h4 | ⟨h4, vals, h5, h6⟩
  · exact .inl h4
  · refine .inr ⟨h4, vals, h5, ?_⟩
    rcases h6 with ⟨k1, k2, k3⟩ | h6 | h6
    · refine .inl ⟨k1, k2, mem_dropDone k3 ?_⟩
      cases hq : Nat.testBit m j with
      | false => rfl
      | true => have := hm j hq; rw [hl] at this; cases this
    · exact .inr (.inl h6)
    · exact .inr (.inr h6)

/-! ### The order is followed -/
theorem DrawR.catchTo (hE : ∀ i, (E i).oneCell' = true) (hg : ∀ n, Nat.testBit g n = true → Nat.testBit G n = true) (hhi : hi ≤ h.next) (hst : stillOk P h d.pend = true) {i m : Nat} {o : Oper} {rest : List (Nat × Nat × Oper)} (ht : d.todo = (i, m, o) :: rest) (hnone : noneReady d.done rest = true)
    (b : Frame) (k : List Item) (cs : List Frame) : ∀ (l : List Nat) (ρ : Rho) (w : World) (a : Act) (ls : Array Bool), HeapR E G w0 ρ h w → DrawR E P g ρ h lo hi gh d env a.tmps ls l →
    ∃ l' a' w' ρ' ls', Steps P (lone (b.atR a (.inRegion d.ops l :: k)) cs w) (lone (b.atR a' (.inRegion d.ops (i :: l') :: k)) cs w') ∧ HeapR E G w0 ρ' h w' ∧ ExtN lo ρ h ρ' h ∧ a'.defers = a.defers ∧ a'.tmps.size = a.tmps.size ∧
      DrawR E P g ρ' h lo hi gh d env a'.tmps ls' (i :: l') := by
  intro l
  induction l with
  | nil =>
    intro ρ w a ls hr hd
    obtain ⟨h1, h2⟩ := hd.todo2 (i, m, o) (by rw [ht]; exact List.mem_cons_self ..)
    have hlt : i < d.ops.size := (Array.getElem?_eq_some_iff.1 (mem_dItems.1 h1).1).1
    have hun : ls.getD i false = false := by
      cases hq : ls.getD i false with
      | false => rfl
      | true => have := hd.sub i hq; rw [h2] at this; cases this
    have hnil : Region.ready .any d.ops ls = [] := by cases hd.lin with | nil h => exact h
    exact absurd hnil (ready_some hd.ok hd.lsz i i (Nat.le_refl _) hlt hun)
  | cons x l ih =>
    intro ρ w a ls hr hd
    by_cases hx : x = i
    · subst hx
      exact ⟨l, a, w, ρ, ls, .refl _ _, hr, .refl _ _ _, rfl, rfl, hd⟩
    · have hrd : x ∈ Region.ready .any d.ops ls := by cases hd.lin with | cons h _ => exact h
      obtain ⟨hun, hlt⟩ := ready_unl hd.lsz hrd
      have hdone : Nat.testBit d.done x = true := by
        cases hq : Nat.testBit d.done x with
        | true => rfl
        | false =>
          exfalso
          have hmem : (x, maskAt d.ops x, d.ops[x]) ∈ dItems d.ops := mem_dItems.2 ⟨by simp [hlt], rfl⟩
          rcases hd.todo1 _ hmem with h1 | h1
          · rw [hq] at h1; cases h1
          · rw [ht] at h1
            cases h1 with
            | head => exact hx rfl
            | tail _ h1 =>
              have h2 := List.all_eq_true.1 hnone _ h1
              simp only [Bool.not_eq_true'] at h2
              have h3 : doneAll d.done (maskAt d.ops x) = true := doneAll_spec.2 fun k hk => hd.sub k (hd.ahead hrd hk)
              rw [h3] at h2; cases h2
      obtain ⟨a', w', ρ', s1, s2, s3, s4, s5, s6⟩ := hd.catchOne hE hg hr hhi hst hdone b k cs
      obtain ⟨l', a2, w2, ρ2, ls2, t1, t2, t3, t4, t5, t6⟩ := ih ρ' w' a' _ s2 s5
      exact ⟨l', a2, w2, ρ2, ls2, .head s1 t1, t2, s3.trans t3, t4.trans s4, t5.trans s6, t6⟩

theorem DrawR.catchAll (hE : ∀ i, (E i).oneCell' = true) (hg : ∀ n, Nat.testBit g n = true → Nat.testBit G n = true) (hhi : hi ≤ h.next) (hst : stillOk P h d.pend = true) (ht : d.todo = [])
    (b : Frame) (k : List Item) (cs : List Frame) : ∀ (l : List Nat) (ρ : Rho) (w : World) (a : Act) (ls : Array Bool), HeapR E G w0 ρ h w → DrawR E P g ρ h lo hi gh d env a.tmps ls l →
    ∃ a' w' ρ', Steps P (lone (b.atR a (.inRegion d.ops l :: k)) cs w) (lone (b.atR a' k) cs w') ∧ HeapR E G w0 ρ' h w' ∧ ExtN lo ρ h ρ' h ∧ a'.defers = a.defers ∧ a'.tmps.size = a.tmps.size ∧ EnvR E ρ' env a'.tmps := by
  intro l
  induction l with
  | nil =>
    intro ρ w a ls hr hd
    refine ⟨a, w, ρ, .one stepR_region_end, hr, .refl _ _ _, rfl, rfl, fun t => ?_⟩
    have hnil : Region.ready .any d.ops ls = [] := by cases hd.lin with | nil h => exact h
    have hall : ∀ j, j < d.ops.size → ls.getD j false = true := by
      intro j hj
      cases hq : ls.getD j false with
      | true => rfl
      | false => exact absurd hnil (ready_some hd.ok hd.lsz j j (Nat.le_refl _) hj hq)
    by_cases hw : ∃ j, Writes d.ops j t
    · obtain ⟨j, hw⟩ := hw
      have hj : j < d.ops.size := by obtain ⟨o, ho, _⟩ := hw; exact (Array.getElem?_eq_some_iff.1 ho).1
      exact hd.in1 t j (hall j hj) hw
    · rw [hd.keep t fun j _ hwj => hw ⟨j, hwj⟩]
      exact hd.in0 t fun j _ hwj => hw ⟨j, hwj⟩
  | cons x l ih =>
    intro ρ w a ls hr hd
    have hrd : x ∈ Region.ready .any d.ops ls := by cases hd.lin with | cons h _ => exact h
    obtain ⟨hun, hlt⟩ := ready_unl hd.lsz hrd
    have hdone : Nat.testBit d.done x = true := by
      have hmem : (x, maskAt d.ops x, d.ops[x]) ∈ dItems d.ops := mem_dItems.2 ⟨by simp [hlt], rfl⟩
      rcases hd.todo1 _ hmem with h1 | h1
      · exact h1
      · rw [ht] at h1; cases h1
    obtain ⟨a', w', ρ', s1, s2, s3, s4, s5, s6⟩ := hd.catchOne hE hg hr hhi hst hdone b k cs
    obtain ⟨a2, w2, ρ2, t1, t2, t3, t4, t5, t6⟩ := ih ρ' w' a' _ s2 s5
    exact ⟨a2, w2, ρ2, .head s1 t1, t2, s3.trans t3, t4.trans s4, t5.trans s6, t6⟩

/-! ### An operation is reckoned -/
theorem envGet_put {size : Nat} {env e : T AV} {dst : Option Nat} {v : AV} (hp : putEnv size env dst v = some e) (t : Nat) : (dst = some t → envGet e t = v ∧ t < size) ∧ (dst ≠ some t → envGet e t = envGet env t) := by
  rcases putEnv_some hp with ⟨rfl, rfl⟩ | ⟨d, rfl, h1, h2, rfl⟩
  · exact ⟨fun he => (by cases he), fun _ => rfl⟩
  · constructor
    · intro he
      simp only [Option.some.injEq] at he; subst he
      rw [envGet_set _ _ _ _ h2, if_pos rfl]; exact ⟨rfl, h1⟩
    · intro he
      rw [envGet_set _ _ _ _ h2, if_neg (fun ht => he (by rw [ht]))]

/-- What of the state changes with the operations that are done, but for those that are reckoned. -/
theorem DrawR.mark (hd : DrawR E P g ρ h lo hi gh d env tmps ls l) {i m : Nat} {o : Oper} {pre post : List (Nat × Nat × Oper)} (ht : d.todo = pre ++ (i, m, o) :: post) (hm : doneAll d.done m = true) :
    d.ops[i]? = some o ∧ m = maskAt d.ops i ∧ i < d.ops.size ∧ Nat.testBit d.done i = false ∧ ls.getD i false = false ∧ (∀ k, Nat.testBit (maskAt d.ops i) k = true → Nat.testBit d.done k = true) ∧
    (∀ t, t ∈ looksAt d.ops o → (∀ j, Nat.testBit d.done j = true → Writes d.ops j t → Nat.testBit (maskAt d.ops i) j = true)) ∧
    (∀ j, Nat.testBit (Nat.lor d.done (2 ^ i)) j = true ↔ Nat.testBit d.done j = true ∨ j = i) ∧
    (∀ e, e ∈ dItems d.ops → Nat.testBit (Nat.lor d.done (2 ^ i)) e.1 = true ∨ e ∈ pre ++ post) ∧
    (∀ e, e ∈ pre ++ post → e ∈ dItems d.ops ∧ Nat.testBit (Nat.lor d.done (2 ^ i)) e.1 = false) ∧ (pre ++ post).Pairwise (fun a b => a.1 < b.1) := by
  have hmem : (i, m, o) ∈ d.todo := by rw [ht]; simp
  obtain ⟨h1, h2⟩ := hd.todo2 _ hmem
  obtain ⟨ho, hmk⟩ := mem_dItems.1 h1
  have hmk' : m = maskAt d.ops i := hmk
  have hlt : i < d.ops.size := (Array.getElem?_eq_some_iff.1 ho).1
  have hun : ls.getD i false = false := by
    cases hq : ls.getD i false with
    | false => rfl
    | true => have := hd.sub i hq; rw [h2] at this; cases this
  have hall := doneAll_spec.1 hm
  rw [hmk'] at hall
  have hbit : ∀ j, Nat.testBit (Nat.lor d.done (2 ^ i)) j = true ↔ Nat.testBit d.done j = true ∨ j = i := fun j => by rw [bit_add]; simp
  refine ⟨ho, hmk', hlt, h2, hun, hall, ?_, hbit, ?_, ?_, ?_⟩
  · intro t hl j hj hw
    have hne : i ≠ j := fun he => by subst he; rw [h2] at hj; cases hj
    rcases hd.ok.apart i j t o hne hw ho hl with h3 | h3
    · exact h3
    · have := hd.dclosed j i hj h3
      rw [h2] at this; cases this
  · intro e he
    rcases hd.todo1 e he with h3 | h3
    · exact .inl ((hbit _).2 (.inl h3))
    · rw [ht] at h3
      rcases List.mem_append.1 h3 with h4 | h4
      · exact .inr (List.mem_append.2 (.inl h4))
      · cases h4 with
        | head => exact .inl ((hbit _).2 (.inr rfl))
        | tail _ h4 => exact .inr (List.mem_append.2 (.inr h4))
  · intro e he
    have hp := hd.todo3
    rw [ht, List.pairwise_append] at hp
    have hne : e.1 ≠ i := by
      rcases List.mem_append.1 he with h4 | h4
      · have := hp.2.2 e h4 (i, m, o) (List.mem_cons_self ..)
        intro hh; rw [hh] at this; exact Nat.lt_irrefl _ this
      · have := (List.pairwise_cons.1 hp.2.1).1 e h4
        intro hh; rw [hh] at this; exact Nat.lt_irrefl _ this
    have hin : e ∈ d.todo := by
      rw [ht]
      rcases List.mem_append.1 he with h4 | h4
      · exact List.mem_append.2 (.inl h4)
      · exact List.mem_append.2 (.inr (List.mem_cons_of_mem _ h4))
    obtain ⟨k1, k2⟩ := hd.todo2 e hin
    refine ⟨k1, ?_⟩
    cases hq : Nat.testBit (Nat.lor d.done (2 ^ i)) e.1 with
    | false => rfl
    | true =>
      rcases (hbit _).1 hq with h5 | h5
      · rw [k2] at h5; cases h5
      · exact absurd h5 hne
  · have hp := hd.todo3
    rw [ht] at hp
    exact hp.sublist ((List.sublist_cons_self _ _).append_left pre)

/-- What the others that are reckoned become. -/
theorem LightR.put {size : Nat} {pend pend' : List Pend} {gh' : Nat → Option Nat} {env' : T AV} {h' : Heap} {j : Nat} (hl : LightR P g d.ops d.env0 env h ρ size pend gh j)
    (hkeep : ∀ t, (∃ k, (Nat.testBit (maskAt d.ops j) k = true ∨ k = j) ∧ Writes d.ops k t) → envGet env' t = envGet env t) (hp : ∀ p : Pend, p ∈ pend → p.ix = j → p ∈ pend') (hgh : gh' j = gh j) (hh : ∀ b, gh j = some b → ρ b = none → h'.at b = h.at b) :
    LightR P g d.ops d.env0 env' h' ρ size pend' gh' j := by
  obtain ⟨o', ε, v, h1, h2, h3, h4⟩ := hl
  refine ⟨o', ε, v, h1, ?_, ?_, ?_⟩
  · intro t ht
    obtain ⟨k1, k2⟩ := h2 t ht
    refine ⟨fun hm => ?_, k2⟩
    obtain ⟨k, hk, hw⟩ := hm
    rw [k1 ⟨k, hk, hw⟩]
    exact (hkeep t ⟨k, .inl hk, hw⟩).symm
  · intro t ht
    rw [hkeep t ⟨j, .inr rfl, o', h1, ht⟩]
    exact h3 t ht
  · rcases h4 with h4 | ⟨h4, vals, h5, h6⟩
    · exact .inl h4
    · refine .inr ⟨h4, vals, h5, ?_⟩
      rcases h6 with ⟨k1, k2, k3⟩ | h6 | ⟨h6, n, b, q1, q2, q3, q4, q5⟩
      · exact .inl ⟨k1, k2, hp _ k3 rfl⟩
      · exact .inr (.inl h6)
      · exact .inr (.inr ⟨h6, n, b, q1, q2, by rw [hgh]; exact q3, q4, by rw [hh b q3 q4]; exact q5⟩)

end Go.AM
namespace Go.AM
open Go.RowKit (Below)
variable {E : Nat → Value} {G : Nat} {w0 : World} {ρ : Rho} {h : Heap} {w : World} {P : Program}
variable {g lo hi : Nat} {gh : Nat → Option Nat} {d : DReg} {env : T AV} {tmps : Array Value} {ls : Array Bool} {l : List Nat}

theorem pickLight_spec {ops : Array Oper} {env : T AV} {done : Nat} : ∀ {todo : List (Nat × Nat × Oper)} {x : Nat × Nat × Oper × Bool} {rest : List (Nat × Nat × Oper)}, pickLight P ops env done todo = some (x, rest) →
    ∃ pre post, todo = pre ++ (x.1, x.2.1, x.2.2.1) :: post ∧ rest = pre ++ post ∧ doneAll done x.2.1 = true ∧ wantedA ops env x.2.2.1 = some x.2.2.2 ∧ (x.2.2.2 = true → isHeavy P x.2.2.1.op = false) := by
  intro todo
  induction todo with
  | nil => intro x rest hs; simp [pickLight] at hs
  | cons y todo ih =>
    intro x rest hs
    simp only [pickLight] at hs
    have hother : ∀ {r}, (match pickLight P ops env done todo with | some (z, l) => some (z, y :: l) | none => none) = some r →
        ∃ pre post, y :: todo = pre ++ (r.1.1, r.1.2.1, r.1.2.2.1) :: post ∧ r.2 = pre ++ post ∧ doneAll done r.1.2.1 = true ∧ wantedA ops env r.1.2.2.1 = some r.1.2.2.2 ∧ (r.1.2.2.2 = true → isHeavy P r.1.2.2.1.op = false) := by
      intro r hr
      cases hq : pickLight P ops env done todo with
      | none => rw [hq] at hr; cases hr
      | some zl =>
        obtain ⟨z, l⟩ := zl
        rw [hq] at hr
        simp only [Option.some.injEq] at hr; subst hr
        obtain ⟨pre, post, h1, h2, h3⟩ := ih hq
        exact ⟨y :: pre, post, by rw [h1]; rfl, by rw [h2]; rfl, h3⟩
    cases hb : doneAll done y.2.1 with
    | false => rw [hb] at hs; exact hother hs
    | true =>
      rw [hb] at hs
      simp only [cond_true] at hs
      cases hw : wantedA ops env y.2.2 with
      | none => rw [hw] at hs; cases hs
      | some w =>
        rw [hw] at hs
        cases w with
        | false =>
          simp only [Option.some.injEq, Prod.mk.injEq] at hs
          obtain ⟨rfl, rfl⟩ := hs
          exact ⟨[], todo, rfl, rfl, hb, hw, fun hh => by cases hh⟩
        | true =>
          simp only at hs
          cases hh : isHeavy P y.2.2.op with
          | true => rw [hh] at hs; exact hother hs
          | false =>
            rw [hh] at hs
            simp only [cond_false, Option.some.injEq, Prod.mk.injEq] at hs
            obtain ⟨rfl, rfl⟩ := hs
            exact ⟨[], todo, rfl, rfl, hb, hw, fun _ => hh⟩

/-- An operation is reckoned; nothing goes. -/
theorem DrawR.reckon (hd : DrawR E P g ρ h lo hi gh d env tmps ls l) {i m : Nat} {o : Oper} {pre post : List (Nat × Nat × Oper)} (ht : d.todo = pre ++ (i, m, o) :: post) (hm : doneAll d.done m = true) {v : AV} {env' : T AV}
    (hp : putEnv tmps.size env o.dst v = some env') {h' : Heap} {hi' : Nat} {gh' : Nat → Option Nat} {pend' : List Pend} (hgh : ∀ j, j ≠ i → gh' j = gh j) (hgb : ∀ j b, gh' j = some b → lo ≤ b ∧ b < hi')
    (hinj : ∀ j k b, gh' j = some b → gh' k = some b → j = k) (hpend : ∀ p : Pend, p ∈ d.pend → p ∈ pend') (hh : ∀ j b, gh j = some b → ρ b = none → h'.at b = h.at b)
    (hcase : (wantedA d.ops env o = some false ∧ v = AV.undef) ∨ (wantedA d.ops env o = some true ∧ ∃ vals, evalAll g env o.op.operands.toList = some vals ∧
        ((kindOf P o.op = .read ∧ mayChange o.op = true ∧ (⟨i, o, vals, v⟩ : Pend) ∈ pend') ∨ (kindOf P o.op = .read ∧ ∀ h, readA P h o vals = some v) ∨
         (kindOf P o.op = .make ∧ ∃ n b, makeA P o vals = some n ∧ v = n.val b ∧ gh' i = some b ∧ ρ b = none ∧ h'.at b = n.obj)))) :
    DrawR E P g ρ h' lo hi' gh' { d with todo := pre ++ post, done := Nat.lor d.done (2 ^ i), pend := pend' } env' tmps ls l := by
  obtain ⟨ho, hmk, hlt, hnd, hun, hall, hlook, hbit, t1, t2, t3⟩ := hd.mark ht hm
  have hwi : ∀ t, Writes d.ops i t ↔ o.dst = some t := by
    intro t
    constructor
    · rintro ⟨o', h1, h2⟩; rw [ho] at h1; simp only [Option.some.injEq] at h1; subst h1; exact h2
    · intro h1; exact ⟨o, ho, h1⟩
  have hother : ∀ t k, k ≠ i → Writes d.ops k t → envGet env' t = envGet env t := fun t k hk hw => (envGet_put hp t).2 fun he => hk (hd.ok.one k i t hw ((hwi t).2 he))
  refine { ok := hd.ok, lin := hd.lin, lsz := hd.lsz, sub := fun j hj => (hbit j).2 (.inl (hd.sub j hj)), closed := hd.closed, dlt := ?_, dclosed := ?_, todo1 := t1, todo2 := t2, todo3 := t3, keep := ?_, in1 := ?_, in0 := hd.in0, ghost := hgb, inj := hinj, light := ?_ }
  · intro j hj
    rcases (hbit j).1 hj with h1 | rfl
    · exact hd.dlt j h1
    · exact hlt
  · intro j k hj hk
    refine (hbit k).2 (.inl ?_)
    rcases (hbit j).1 hj with h1 | rfl
    · exact hd.dclosed j k h1 hk
    · exact hall k hk
  · intro t hno
    have hdst : o.dst ≠ some t := fun he => hno i ((hbit i).2 (.inr rfl)) ((hwi t).2 he)
    rw [(envGet_put hp t).2 hdst]
    exact hd.keep t fun j hj => hno j ((hbit j).2 (.inl hj))
  · intro t j hj hw
    have hne : j ≠ i := fun he => by subst he; rw [hun] at hj; cases hj
    rw [hother t j hne hw]
    exact hd.in1 t j hj hw
  · intro j hj hl
    by_cases hji : j = i
    · subst hji
      refine ⟨o, env, v, ho, ?_, fun t ht => (envGet_put hp t).1 ht, hcase⟩
      intro t htl
      constructor
      · intro _
        exact ((envGet_put hp t).2 fun he => hd.ok.own j o t ho he htl).symm
      · intro hno
        exact hd.keep t fun k hk hw => hno ⟨k, hlook t htl k hk hw, hw⟩
    · have hjd : Nat.testBit d.done j = true := by
        rcases (hbit j).1 hj with h1 | h1
        · exact h1
        · exact absurd h1 hji
      refine LightR.put (hd.light j hjd hl) (fun t hk => ?_) (fun p hp' _ => hpend p hp') (hgh j hji) (fun b hb hn => hh j b hb hn)
      obtain ⟨k, hk, hw⟩ := hk
      refine hother t k (fun he => ?_) hw
      rcases hk with hk | hk
      · have := hd.dclosed j k hjd hk
        rw [he, hnd] at this; cases this
      · exact hji (hk.symm.trans he)

/-- The next of the order, which had not been reckoned, has gone. -/
theorem DrawR.heavy {i : Nat} (hd : DrawR E P g ρ h lo hi gh d env tmps ls (i :: l)) {m : Nat} {o : Oper} {rest : List (Nat × Nat × Oper)} (ht : d.todo = (i, m, o) :: rest) (hm : doneAll d.done m = true) {v : AV} {env' : T AV}
    (hp : putEnv tmps.size env o.dst v = some env') {a : Act} (ha : a.tmps = tmps) {x : Value} (hx : VR E ρ v x) :
    DrawR E P g ρ h lo hi gh { d with todo := rest, done := Nat.lor d.done (2 ^ i) } env' (a.put o.dst x).tmps (ls.setIfInBounds i true) l := by
  subst ha
  obtain ⟨ho, hmk, hlt, hnd, hun, hall, hlook, hbit, t1, t2, t3⟩ := hd.mark (pre := []) ht hm
  have hrd : i ∈ Region.ready .any d.ops ls := by cases hd.lin with | cons h _ => exact h
  have hlin : Lin d.ops (ls.setIfInBounds i true) l := by cases hd.lin with | cons _ t => exact t
  have hwi : ∀ t, Writes d.ops i t ↔ o.dst = some t := by
    intro t
    constructor
    · rintro ⟨o', h1, h2⟩; rw [ho] at h1; simp only [Option.some.injEq] at h1; subst h1; exact h2
    · intro h1; exact ⟨o, ho, h1⟩
  have hother : ∀ t k, k ≠ i → Writes d.ops k t → envGet env' t = envGet env t := fun t k hk hw => (envGet_put hp t).2 fun he => hk (hd.ok.one k i t hw ((hwi t).2 he))
  have hset : ∀ j, (ls.setIfInBounds i true).getD j false = true ↔ j = i ∨ ls.getD j false = true := by
    intro j
    by_cases hj : j = i
    · subst hj
      have : j < ls.size := by rw [hd.lsz]; exact hlt
      simp [this]
    · rw [getD_set_ne false (Ne.symm hj)]; simp [hj]
  have hget : ∀ t, o.dst ≠ some t → (a.put o.dst x).tmps.getD t Go.undef = a.tmps.getD t Go.undef := by
    intro t ht
    cases hq : o.dst with
    | none => rfl
    | some d' =>
      have hne : t ≠ d' := fun he => ht (by rw [hq, he])
      have hlt := ((envGet_put hp d').1 hq).2
      show (a.tmps.setIfInBounds d' x).getD t Go.undef = _
      rw [getD_set _ _ _ _ hlt, if_neg hne]
  have hgetd : ∀ t, o.dst = some t → (a.put o.dst x).tmps.getD t Go.undef = x := by
    intro t ht
    have hlt := ((envGet_put hp t).1 ht).2
    rw [ht]
    show (a.tmps.setIfInBounds t x).getD t Go.undef = _
    rw [getD_set _ _ _ _ hlt, if_pos rfl]
  refine { ok := hd.ok, lin := hlin, lsz := by simp [hd.lsz], sub := ?_, closed := ?_, dlt := ?_, dclosed := ?_, todo1 := t1, todo2 := t2, todo3 := t3, keep := ?_, in1 := ?_, in0 := ?_, ghost := hd.ghost, inj := hd.inj, light := ?_ }
  · intro j hj
    rcases (hset j).1 hj with rfl | hj
    · exact (hbit j).2 (.inr rfl)
    · exact (hbit j).2 (.inl (hd.sub j hj))
  · intro j k hj hk
    rcases (hset j).1 hj with rfl | hj
    · exact (hset k).2 (.inr (hd.ahead hrd hk))
    · exact (hset k).2 (.inr (hd.closed j k hj hk))
  · intro j hj
    rcases (hbit j).1 hj with h1 | rfl
    · exact hd.dlt j h1
    · exact hlt
  · intro j k hj hk
    refine (hbit k).2 (.inl ?_)
    rcases (hbit j).1 hj with h1 | rfl
    · exact hd.dclosed j k h1 hk
    · exact hall k hk
  · intro t hno
    have hdst : o.dst ≠ some t := fun he => hno i ((hbit i).2 (.inr rfl)) ((hwi t).2 he)
    rw [(envGet_put hp t).2 hdst]
    exact hd.keep t fun j hj => hno j ((hbit j).2 (.inl hj))
  · intro t j hj hw
    by_cases hdst : o.dst = some t
    · rw [hgetd t hdst, ((envGet_put hp t).1 hdst).1]; exact hx
    · rw [hget t hdst, (envGet_put hp t).2 hdst]
      rcases (hset j).1 hj with rfl | hj
      · exact absurd ((hwi t).1 hw) hdst
      · exact hd.in1 t j hj hw
  · intro t hno
    have hdst : o.dst ≠ some t := fun he => hno i ((hset i).2 (.inl rfl)) ((hwi t).2 he)
    rw [hget t hdst]
    exact hd.in0 t fun j hj => hno j ((hset j).2 (.inr hj))
  · intro j hj hl
    have hji : j ≠ i := fun he => by have := (hset j).2 (.inl he); rw [hl] at this; cases this
    have hl' : ls.getD j false = false := by
      cases hq : ls.getD j false with
      | false => rfl
      | true => have := (hset j).2 (.inr hq); rw [hl] at this; cases this
    have hjd : Nat.testBit d.done j = true := by
      rcases (hbit j).1 hj with h1 | h1
      · exact h1
      · exact absurd h1 hji
    rw [put_size]
    refine LightR.put (hd.light j hjd hl') (fun t hk => ?_) (fun p hp' _ => hp') rfl (fun b _ _ => rfl)
    obtain ⟨k, hk, hw⟩ := hk
    refine hother t k (fun he => ?_) hw
    rcases hk with hk | hk
    · have := hd.dclosed j k hjd hk
      rw [he, hnd] at this; cases this
    · exact hji (hk.symm.trans he)

/-- What a heavy operation looks at is there. -/
theorem DrawR.looks {i : Nat} (hd : DrawR E P g ρ h lo hi gh d env tmps ls (i :: l)) {m : Nat} {o : Oper} {rest : List (Nat × Nat × Oper)} (ht : d.todo = (i, m, o) :: rest) (hm : doneAll d.done m = true) :
    ∀ t, t ∈ looksAt d.ops o → VR E ρ (envGet env t) (tmps.getD t Go.undef) := by
  obtain ⟨ho, hmk, hlt, hnd, hun, hall, hlook, _⟩ := hd.mark (pre := []) ht hm
  have hrd : i ∈ Region.ready .any d.ops ls := by cases hd.lin with | cons h _ => exact h
  refine hd.sees hrd ho fun t htl => ⟨fun _ => rfl, fun hno => ?_⟩
  exact hd.keep t fun k hk hw => hno ⟨k, hlook t htl k hk hw, hw⟩

/-- The region begins. -/
theorem DrawR.begin {ops : Array Oper} (hk : dOk ops = true) (he : EnvR E ρ env tmps) (t : Nat) : DrawR E P g ρ h lo hi (fun _ => none) ⟨ops, env, dItems ops, 0, []⟩ env tmps (Array.replicate ops.size false) (Region.schedule true ops t) := by
  have hno : ∀ j, (Array.replicate ops.size false).getD j false = false := fun j => by
    simp only [Array.getD_eq_getD_getElem?, Array.getElem?_replicate]
    split <;> rfl
  refine { ok := dOk_sound hk, lin := lin_schedule t, lsz := by simp, sub := ?_, closed := ?_, dlt := ?_, dclosed := ?_, todo1 := fun e he => .inr he, todo2 := fun e he => ⟨he, by simp⟩, todo3 := (itemsOf_sorted _ _ _).1, keep := fun _ _ => rfl, in1 := ?_, in0 := fun t _ => he t,
           ghost := (fun _ _ hh => nomatch hh), inj := (fun _ _ _ hh => nomatch hh), light := ?_ }
  · intro j hj; rw [hno] at hj; cases hj
  · intro j k hj; rw [hno] at hj; cases hj
  · intro j hj; simp at hj
  · intro j k hj; simp at hj
  · intro t j hj; rw [hno] at hj; cases hj
  · intro j hj; simp at hj

end Go.AM

/- The walk: environments, regions, code, calls. -/
import Derived.Test.YtmkegcgnjaldpaaPelCore
namespace Go.Pel
open Go.RowKit

/-! ### Frames -/

abbrev Env := List (Nat × Value)
def look : Env → Nat → Option Value
  | [], _ => none
  | (k, v) :: E, t => cond (Nat.beq k t) (some v) (look E t)

theorem beq_false {a b : Nat} (h : ¬ a = b) : Nat.beq a b = false := by
  cases hb : Nat.beq a b with
  | false => rfl
  | true => exact absurd (Nat.eq_of_beq_eq_true hb) h

structure Ctx (n : Nat) (E : Env) (a : Act) : Prop where
  size : a.tmps.size = n
  defers : a.defers = []
  get : ∀ t v, look E t = some v → a.tmps[t]? = some v

def ev (E : Env) : Operand → Option Value
  | .tmp t => look E t
  | .const v => some v
  | .global g => some (.pointer (some ⟨g, 0, none⟩))
  | .func f => some (.func (.func f) #[] #[])

theorem Ctx.ev {n E a} (h : Ctx n E a) {x : Operand} {v : Value} (hx : ev E x = some v) : a.eval x = v := by
  cases x with
  | tmp t => simp [Act.eval, Array.getD_eq_getD_getElem?, h.get t v hx]
  | _ => simpa [Pel.ev, Act.eval] using hx

theorem Ctx.put {n E a} (h : Ctx n E a) {d : Nat} (hd : Nat.blt d n = true) (v : Value) : Ctx n ((d, v) :: E) (a.put (some d) v) := by
  have hd' : d < n := by simpa [Nat.blt_eq] using hd
  refine ⟨by simp [Act.put, h.size], by simpa [Act.put] using h.defers, fun t u ht => ?_⟩
  simp only [look] at ht
  by_cases e : d = t
  · subst e
    simp at ht
    simp [Act.put, h.size, hd', ht]
  · have hb : Nat.beq d t = false := beq_false e
    rw [hb] at ht
    simp [Act.put, Array.getElem?_setIfInBounds_ne e, h.get t u ht]

theorem Ctx.nil {n E a} (h : Ctx n E a) : Ctx n [] a := ⟨h.size, h.defers, fun _ _ k => by cases k⟩
/-- A slot is known in the new list, too. -/
theorem Ctx.keep {n E E' a} (h' : Ctx n E a) (h : Ctx n E' a) {t : Nat} {v : Value} (ht : look E t = some v) : Ctx n ((t, v) :: E') a :=
  ⟨h.size, h.defers, fun s u hs => by
    simp only [look] at hs
    by_cases e : t = s
    · subst e
      simp at hs
      rw [← hs]; exact h'.get t v ht
    · have hb : Nat.beq t s = false := beq_false e
      rw [hb] at hs
      exact h.get s u hs⟩

/-! ### Posts -/

structure Post where
  normal : Act → World → Prop
  ret : Act → World → Prop
  exit : Nat → Act → World → Prop

def Post.k (Q : Post) : Exit → Act → World → Prop
  | .normal, a, w => Q.normal a w
  | .ret, a, w => Q.ret a w
  | .exit id, a, w => Q.exit id a w
  | _, _, _ => False

/-! ### Regions -/

/-- The operations in the given order; those that bear 'true' yield their value in every world that meets 'S'. -/
def seqH (P : Program) (ops : Array Oper) (Q : Post) (S : World → Prop) : List (Nat × Bool) → Act → World → Prop
  | [], a, w => Q.normal a w
  | (i, true) :: rest, a, w => ∃ o v, ops[i]? = some o ∧ YieldsIf P ops S o v a ∧ S w ∧ seqH P ops Q S rest (a.put o.dst v) w
  | (i, false) :: rest, a, w => wpOp P ops Q.k i (fun a' w' => S w' ∧ seqH P ops Q S rest a' w') a w

theorem seqH_ops {P : Program} {ops : Array Oper} {Q : Post} {S : World → Prop} : ∀ (l : List (Nat × Bool)) (a : Act) (w : World),
    seqH P ops Q S l a w → wpOps P ops Q.k (l.map (·.1)) a w
  | [], _, _, h => h
  | (i, true) :: rest, a, w, h => by
    obtain ⟨o, v, ho, hy, hS, hr⟩ := h
    simp only [List.map_cons]
    rw [wpOps_cons]
    exact YieldsIf.wpOp ho hy hS (seqH_ops rest _ _ hr)
  | (i, false) :: rest, a, w, h => by
    simp only [List.map_cons]
    rw [wpOps_cons]
    exact wpOp_mono (fun a' w' h' => seqH_ops rest a' w' h'.2) h

def sched (ops : Array Oper) : List (Nat × Bool) → Array Bool → Bool
  | [], listed => (Region.ready .any ops listed).isEmpty
  | (i, true) :: rest, listed => (Region.ready .any ops listed).contains i && Region.free .any ops listed i && sched ops rest (listed.setIfInBounds i true)
  | (i, false) :: rest, listed => (Region.ready .any ops listed == [i]) && sched ops rest (listed.setIfInBounds i true)

theorem seqH_any {P : Program} {ops : Array Oper} {Q : Post} {S : World → Prop} (hs : Region.noSelect ops = true) : ∀ (l : List (Nat × Bool)) (listed : Array Bool) (a : Act) (w : World),
    sched ops l listed = true → seqH P ops Q S l a w → wpAnyH P .any ops Q.k S l.length listed a w
  | [], listed, a, w, hl, h => wpAnyH_done (by simpa [sched] using hl) h _
  | (i, true) :: rest, listed, a, w, hl, h => by
    obtain ⟨o, v, ho, hy, hS, hr⟩ := h
    simp only [sched, Bool.and_eq_true] at hl
    exact wpAnyH_take ho hs hl.1.2 hl.1.1 (fun c a w h => h) hy hS (seqH_any hs rest _ _ _ hl.2 hr)
  | (i, false) :: rest, listed, a, w, hl, h => by
    simp only [sched, Bool.and_eq_true, beq_iff_eq] at hl
    refine wpAnyH_all hl.1 (by simp) fun j hj => ?_
    simp only [List.mem_singleton] at hj
    subst hj
    exact wpOp_mono (fun a' w' h' => ⟨h'.1, seqH_any hs rest _ a' w' hl.2 h'.2⟩) h

def WO (P : Program) (ops : Array Oper) (Q : Post) (S : World → Prop) (l : List (Nat × Bool)) (n : Nat) (E : Env) (F : Mem) (Φ : List (List Chunk)) : Prop :=
  ∀ a w, Ctx n E a → Sat F Φ w → S w → seqH P ops Q S l a w

def WC (P : Program) (c : Code) (Q : Post) (n : Nat) (E : Env) (F : Mem) (Φ : List (List Chunk)) : Prop :=
  ∀ a w, Ctx n E a → Sat F Φ w → c.wp P Q.k a w

/-- What is known at a point. -/
def At (K : Act → World → Prop) (n : Nat) (E : Env) (F : Mem) (Φ : List (List Chunk)) : Prop := ∀ a w, Ctx n E a → Sat F Φ w → K a w

section
variable {P : Program} {ops : Array Oper} {Q : Post} {S : World → Prop} {n : Nat} {E : Env} {F : Mem} {Φ : List (List Chunk)}

theorem WO.done (h : At Q.normal n E F Φ) : WO P ops Q S [] n E F Φ := fun a w hc hs _ => h a w hc hs

def gOk (ops : Array Oper) (E : Env) : Option (Nat × Bool) → Option Bool
  | none => some true
  | some (j, want) =>
    match ops[j]? with
    | some o => match o.dst with
      | some d => match look E d with
        | some (.bool b) => some (b == want)
        | some (.tuple _) => some false
        | _ => none
      | none => none
    | none => none

theorem gOk_wanted {a : Act} {o : Oper} (hc : Ctx n E a) {b : Bool} (h : gOk ops E o.guard = some b) : Region.wanted o (yielded ops a.tmps) = b := by
  unfold Region.wanted
  cases hg : o.guard with
  | none => simp [hg, gOk] at h; exact h.symm ▸ rfl
  | some g =>
    obtain ⟨j, want⟩ := g
    rw [hg] at h
    simp only [gOk] at h
    split at h <;> try cases h
    rename_i o' ho'
    split at h <;> try cases h
    rename_i d hd
    split at h
    · rename_i b' hb'
      cases h
      have := hc.get d _ hb'
      simp only [yielded, ho', hd, Option.bind_some, this]
      cases b' <;> cases want <;> simp_all
    · rename_i b' hb'
      cases h
      have := hc.get d _ hb'
      simp only [yielded, ho', hd, Option.bind_some, this]
      rfl
    · cases h

/-- An operation that only yields a value. -/
theorem WO.yield {i : Nat} {rest} {o : Oper} {d : Nat} {v : Value} (ho : ops[i]? = some o) (hd : o.dst = some d) (hg : gOk ops E o.guard = some true) (hn : Nat.blt d n = true)
    (hx : ∀ a, Ctx n E a → ∀ w, S w → (execOp a.eval o).run P w = .ok (.value v) w) (h : WO P ops Q S rest n ((d, v) :: E) F Φ) :
    WO P ops Q S ((i, true) :: rest) n E F Φ := fun a w hc hs hS =>
  ⟨o, v, ho, .inl ⟨gOk_wanted hc hg, hx a hc⟩, hS, by rw [hd]; exact h _ _ (hc.put hn v) hs hS⟩

/-- One that its guard leaves out. -/
theorem WO.skip {i : Nat} {rest} {o : Oper} {d : Nat} (ho : ops[i]? = some o) (hd : o.dst = some d) (hg : gOk ops E o.guard = some false) (hn : Nat.blt d n = true)
    (h : WO P ops Q S rest n ((d, undef) :: E) F Φ) : WO P ops Q S ((i, true) :: rest) n E F Φ := fun a w hc hs hS =>
  ⟨o, undef, ho, .inr ⟨gOk_wanted hc hg, rfl⟩, hS, by rw [hd]; exact h _ _ (hc.put hn _) hs hS⟩
theorem WO.skipF {i : Nat} {rest} {o : Oper} {d : Nat} (ho : ops[i]? = some o) (hd : o.dst = some d) (hg : gOk ops E o.guard = some false) (hn : Nat.blt d n = true)
    (h : WO P ops Q S rest n ((d, undef) :: E) F Φ) : WO P ops Q S ((i, false) :: rest) n E F Φ := fun a w hc hs hS => by
  show wpOp P ops Q.k i _ a w
  unfold wpOp
  simp only [ho, gOk_wanted hc hg, Bool.false_eq_true, if_false, hd]
  exact ⟨hS, h _ _ (hc.put hn _) hs hS⟩
theorem WO.skip0 {i : Nat} {rest} {o : Oper} (ho : ops[i]? = some o) (hd : o.dst = none) (hg : gOk ops E o.guard = some false)
    (h : WO P ops Q S rest n E F Φ) : WO P ops Q S ((i, false) :: rest) n E F Φ := fun a w hc hs hS => by
  show wpOp P ops Q.k i _ a w
  unfold wpOp
  simp only [ho, gOk_wanted hc hg, Bool.false_eq_true, if_false, hd]
  exact ⟨hS, h _ _ hc hs hS⟩

/-- Any operation: what it comes to. -/
theorem WO.act {i : Nat} {rest} {o : Oper} (ho : ops[i]? = some o) (hg : gOk ops E o.guard = some true)
    (hx : ∀ a w, Ctx n E a → Sat F Φ w → S w → o.wp P a w (fun a' w' => S w' ∧ seqH P ops Q S rest a' w') Q.k) :
    WO P ops Q S ((i, false) :: rest) n E F Φ := fun a w hc hs hS => by
  show wpOp P ops Q.k i _ a w
  unfold wpOp
  simp only [ho, gOk_wanted hc hg, if_true]
  exact .inl (hx a w hc hs hS)

/-- One that yields a value, the world as it is. -/
theorem WO.val {i : Nat} {rest} {o : Oper} {d : Nat} {v : Value} (ho : ops[i]? = some o) (hd : o.dst = some d) (hg : gOk ops E o.guard = some true) (hn : Nat.blt d n = true)
    (hx : ∀ a w, Ctx n E a → Sat F Φ w → S w → (execOp a.eval o).run P w = .ok (.value v) w) (h : WO P ops Q S rest n ((d, v) :: E) F Φ) :
    WO P ops Q S ((i, false) :: rest) n E F Φ :=
  WO.act ho hg fun a w hc hs hS => by
    unfold Oper.wp
    rw [hx a w hc hs hS]
    exact ⟨hS, by rw [hd]; exact h _ _ (hc.put hn v) hs hS⟩

/-- One that turns the world and yields a value. -/
theorem WO.valW {i : Nat} {rest} {o : Oper} {d : Nat} (ho : ops[i]? = some o) (hd : o.dst = some d) (hg : gOk ops E o.guard = some true) (hn : Nat.blt d n = true)
    (hx : ∀ a w, Ctx n E a → Sat F Φ w → S w → ∃ v w' F' Φ', (execOp a.eval o).run P w = .ok (.value v) w' ∧ Sat F' Φ' w' ∧ S w' ∧ WO P ops Q S rest n ((d, v) :: E) F' Φ') :
    WO P ops Q S ((i, false) :: rest) n E F Φ :=
  WO.act ho hg fun a w hc hs hS => by
    obtain ⟨v, w', F', Φ', hr, hs', hS', h⟩ := hx a w hc hs hS
    unfold Oper.wp
    rw [hr]
    exact ⟨hS', by rw [hd]; exact h _ _ (hc.put hn v) hs' hS'⟩

/-- One that turns the world alone. -/
theorem WO.unitW {i : Nat} {rest} {o : Oper} (ho : ops[i]? = some o) (hd : o.dst = none) (hg : gOk ops E o.guard = some true)
    (hx : ∀ a w, Ctx n E a → Sat F Φ w → S w → ∃ w' F' Φ', (execOp a.eval o).run P w = .ok .skip w' ∧ Sat F' Φ' w' ∧ S w' ∧ WO P ops Q S rest n E F' Φ') :
    WO P ops Q S ((i, false) :: rest) n E F Φ :=
  WO.act ho hg fun a w hc hs hS => by
    obtain ⟨w', F', Φ', hr, hs', hS', h⟩ := hx a w hc hs hS
    unfold Oper.wp
    rw [hr]
    exact ⟨hS', by rw [hd]; exact h _ _ hc hs' hS'⟩

/-- A slot's truth is parted. -/
theorem WO.split {l} {t : Nat} {b : Bool} (ht : look E t = some (.bool b))
    (h1 : b = true → WO P ops Q S l n ((t, .bool true) :: E) F Φ) (h2 : b = false → WO P ops Q S l n ((t, .bool false) :: E) F Φ) : WO P ops Q S l n E F Φ := fun a w hc hs hS => by
  cases b with
  | true => exact h1 rfl a w (hc.keep hc ht) hs hS
  | false => exact h2 rfl a w (hc.keep hc ht) hs hS

/-! ### Calls -/

/-- A call that comes back. -/
def Ret (R : Value → World → Prop) : Ending → World → Prop := fun e w => ∃ v, e = .returned v ∧ R v w

def CallsRet (P : Program) (f : FuncId) (args : Array Value) (F : Mem) (Φ : List (List Chunk)) (R : Value → World → Prop) : Prop :=
  ∀ w, Sat F Φ w → Calls P f args w (Ret R)

theorem CallsRet.mono {f args} {R R' : Value → World → Prop} (h : CallsRet P f args F Φ R) (hr : ∀ v w, R v w → R' v w) : CallsRet P f args F Φ R' :=
  fun w hs => (h w hs).mono fun _ _ ⟨v, e, k⟩ => ⟨v, e, hr v _ k⟩

def callable (P : Program) (f : FuncId) : Bool :=
  match P.funcs[f]? with
  | some fn => !(fn.name == "runtime.NumGoroutine") && fn.body.isSome
  | none => false

theorem run_callFunc {f : FuncId} (h : callable P f = true) (args : Array Value) (w : World) : (callFunc f args).run P w = .ok (.enter f args) w := by
  unfold callable at h
  split at h
  · rename_i fn hf
    simp only [Bool.and_eq_true, Bool.not_eq_true'] at h
    unfold callFunc
    simp only [Sem.run_bind, run_program, Result.andThen_ok, hf]
    rw [if_neg (by rw [h.1]; simp)]
    have hb : fn.body.isNone = false := by rw [← Option.not_isSome, h.2]; rfl
    rw [hb]
    rfl
  · cases h

def evs (E : Env) : List Operand → Option (List Value)
  | [] => some []
  | x :: xs => match ev E x, evs E xs with
    | some v, some vs => some (v :: vs)
    | _, _ => none
theorem Ctx.evs {a} (h : Ctx n E a) : ∀ {xs : List Operand} {vs : List Value}, evs E xs = some vs → xs.map a.eval = vs
  | [], vs, hx => by simp [Pel.evs] at hx; simp [hx]
  | x :: xs, vs, hx => by
    simp only [Pel.evs] at hx
    split at hx
    · rename_i v us h1 h2
      cases hx
      simp [h.ev h1, h.evs h2]
    · cases hx

/-- A call of a function that is known: its contract. -/
theorem WO.call {i : Nat} {rest} {f : FuncId} {d : Nat} {co : Operand} {xs : List Operand} {tys ty pos af g} {first captured : Array Value} {vs : List Value} {R : Value → World → Prop}
    (ho : ops[i]? = some ⟨some d, .call ⟨.value co, xs.toArray, tys⟩, ty, pos, af, g⟩) (hg : gOk ops E g = some true) (hn : Nat.blt d n = true)
    (hco : ev E co = some (.func (.func f) first captured)) (hvs : evs E xs = some vs) (hc : callable P f = true)
    (hcall : CallsRet P f (first ++ vs.toArray ++ captured) F Φ R)
    (h : ∀ v w, R v w → ∃ F' Φ', Sat F' Φ' w ∧ S w ∧ WO P ops Q S rest n ((d, v) :: E) F' Φ') : WO P ops Q S ((i, false) :: rest) n E F Φ :=
  WO.act ho hg fun a w hctx hs hS => by
    have hr : (execOp a.eval ⟨some d, .call ⟨.value co, xs.toArray, tys⟩, ty, pos, af, g⟩).run P w = .ok (.enter f (first ++ vs.toArray ++ captured)) w := by
      have hm : (xs.toArray.map a.eval) = vs.toArray := by rw [List.map_toArray, hctx.evs hvs]
      simp only [execOp, resolve, hctx.ev hco, Deferred.ofValue, invoke, Sem.run_bind, Sem.run_pure, Result.andThen_ok, hm]
      exact run_callFunc hc _ w
    unfold Oper.wp
    rw [hr]
    show Calls P f (first ++ vs.toArray ++ captured) w _
    refine (hcall w hs).mono fun e w' ⟨v, he, hR⟩ => ?_
    subst he
    obtain ⟨F', Φ', hs', hS', hw⟩ := h v w' hR
    exact ⟨hS', hw _ _ (hctx.put hn v) hs' hS'⟩
theorem WO.call0 {i : Nat} {rest} {f : FuncId} {co : Operand} {xs : List Operand} {tys ty pos af g} {first captured : Array Value} {vs : List Value} {R : Value → World → Prop}
    (ho : ops[i]? = some ⟨none, .call ⟨.value co, xs.toArray, tys⟩, ty, pos, af, g⟩) (hg : gOk ops E g = some true)
    (hco : ev E co = some (.func (.func f) first captured)) (hvs : evs E xs = some vs) (hc : callable P f = true)
    (hcall : CallsRet P f (first ++ vs.toArray ++ captured) F Φ R)
    (h : ∀ v w, R v w → ∃ F' Φ', Sat F' Φ' w ∧ S w ∧ WO P ops Q S rest n E F' Φ') : WO P ops Q S ((i, false) :: rest) n E F Φ :=
  WO.act ho hg fun a w hctx hs hS => by
    have hr : (execOp a.eval ⟨none, .call ⟨.value co, xs.toArray, tys⟩, ty, pos, af, g⟩).run P w = .ok (.enter f (first ++ vs.toArray ++ captured)) w := by
      have hm : (xs.toArray.map a.eval) = vs.toArray := by rw [List.map_toArray, hctx.evs hvs]
      simp only [execOp, resolve, hctx.ev hco, Deferred.ofValue, invoke, Sem.run_bind, Sem.run_pure, Result.andThen_ok, hm]
      exact run_callFunc hc _ w
    unfold Oper.wp
    rw [hr]
    show Calls P f (first ++ vs.toArray ++ captured) w _
    refine (hcall w hs).mono fun e w' ⟨v, he, hR⟩ => ?_
    subst he
    obtain ⟨F', Φ', hs', hS', hw⟩ := h v w' hR
    exact ⟨hS', hw _ _ hctx hs' hS'⟩

/-! ### Code -/

theorem WC.region {id : Nat} (l : List (Nat × Bool)) (hl : l.map (·.1) = List.range ops.size) (h : WO P ops Q (fun _ => True) l n E F Φ) : WC P (.region id ops false) Q n E F Φ :=
  fun a w hc hs => wp_region (by rw [← hl]; exact seqH_ops l a w (h a w hc hs trivial))

theorem WC.draw {id : Nat} (S : World → Prop) (hS : ∀ w, Sat F Φ w → S w) (l : List (Nat × Bool)) (hm : P.follows .mixedOrders = true) (hsel : Region.noSelect ops = true)
    (hl : l.length = ops.size) (hsch : sched ops l (Array.replicate ops.size false) = true) (h : WO P ops Q S l n E F Φ) : WC P (.region id ops true) Q n E F Φ :=
  fun a w hc hs => wp_region_held (S := S) hm (by
    rw [← hl]
    have hs' : Sat F Φ { w with drawn := w.drawn + 1 } := hs.drawn _
    rw [hl]
    have := seqH_any hsel l _ a _ hsch (h a { w with drawn := w.drawn + 1 } hc hs' (hS _ hs'))
    rw [hl] at this
    exact this)

/-! A region whose order branches -/
def marks : List (Nat × Bool) → Array Bool → Array Bool
  | [], l => l
  | (i, _) :: rest, l => marks rest (l.setIfInBounds i true)
def schedP (ops : Array Oper) : List (Nat × Bool) → Array Bool → Bool
  | [], _ => true
  | (i, true) :: rest, listed => (Region.ready .any ops listed).contains i && Region.free .any ops listed i && schedP ops rest (listed.setIfInBounds i true)
  | (i, false) :: rest, listed => (Region.ready .any ops listed == [i]) && schedP ops rest (listed.setIfInBounds i true)
def WA (P : Program) (ops : Array Oper) (Q : Post) (S : World → Prop) (fuel : Nat) (listed : Array Bool) (n : Nat) (E : Env) (F : Mem) (Φ : List (List Chunk)) : Prop :=
  ∀ a w, Ctx n E a → Sat F Φ w → S w → wpAnyH P .any ops Q.k S fuel listed a w
def Post.any (P : Program) (ops : Array Oper) (S : World → Prop) (fuel : Nat) (listed : Array Bool) (Q : Post) : Post := { Q with normal := fun a w => S w → wpAnyH P .any ops Q.k S fuel listed a w }
theorem upon_k {o : Oper} {a : Act} {next : Act → World → Prop} {Q Q' : Post} {r : Result Next} (h : o.upon P a next Q.k r) : o.upon P a next Q'.k r := by
  cases r with
  | ok x w' =>
    cases x <;> simp only [Oper.upon] at h ⊢ <;> (first | exact h | skip)
  | halt x w' => cases x <;> simp only [Oper.upon] at h ⊢ <;> exact h
theorem wpOp_k {i : Nat} {K : Act → World → Prop} {Q Q' : Post} {a : Act} {w : World} (h : wpOp P ops Q.k i K a w) : wpOp P ops Q'.k i K a w := by
  unfold wpOp at *
  split
  · rename_i ho; simp only [ho] at h; exact h
  · rename_i o ho
    simp only [ho] at h
    split
    · rename_i hw
      rw [if_pos hw] at h
      rcases h with h | ⟨_, _, _, hf⟩
      · exact .inl (upon_k h)
      · exact hf.elim
    · rename_i hw
      rw [if_neg hw] at h
      exact h
theorem seqH_prefix {fuel : Nat} (hs : Region.noSelect ops = true) : ∀ (l : List (Nat × Bool)) (listed : Array Bool) (a : Act) (w : World),
    schedP ops l listed = true → S w → seqH P ops (Q.any P ops S fuel (marks l listed)) S l a w → wpAnyH P .any ops Q.k S (l.length + fuel) listed a w
  | [], listed, a, w, _, hS, h => by
    have := h hS
    simpa [marks] using this
  | (i, true) :: rest, listed, a, w, hl, hS, h => by
    obtain ⟨o, v, ho, hy, _, hr⟩ := h
    simp only [schedP, Bool.and_eq_true] at hl
    have hlen : ((i, true) :: rest).length + fuel = (rest.length + fuel) + 1 := by simp; omega
    rw [hlen]
    exact wpAnyH_take ho hs hl.1.2 hl.1.1 (fun c a w h => h) hy hS (seqH_prefix hs rest _ _ _ hl.2 hS hr)
  | (i, false) :: rest, listed, a, w, hl, hS, h => by
    simp only [schedP, Bool.and_eq_true, beq_iff_eq] at hl
    have hlen : ((i, false) :: rest).length + fuel = (rest.length + fuel) + 1 := by simp; omega
    rw [hlen]
    refine wpAnyH_all hl.1 (by simp) fun j hj => ?_
    simp only [List.mem_singleton] at hj
    subst hj
    exact wpOp_mono (fun a' w' h' => ⟨h'.1, seqH_prefix hs rest _ a' w' hl.2 h'.1 h'.2⟩) (wpOp_k h)
theorem WA.lin {fuel : Nat} {listed : Array Bool} (l : List (Nat × Bool)) (hsel : Region.noSelect ops = true) (hsch : schedP ops l listed = true) (h : WO P ops (Q.any P ops S fuel (marks l listed)) S l n E F Φ) : WA P ops Q S (l.length + fuel) listed n E F Φ :=
  fun a w hc hs hS => seqH_prefix hsel l listed a w hsch hS (h a w hc hs hS)
theorem WA.of {fuel : Nat} {listed : Array Bool} (h : WA P ops Q S fuel listed n E F Φ) : At (Q.any P ops S fuel listed).normal n E F Φ := fun a w hc hs hS => h a w hc hs hS
theorem WA.done {fuel : Nat} {listed : Array Bool} (hr : Region.ready .any ops listed = []) (h : At Q.normal n E F Φ) : WA P ops Q S fuel listed n E F Φ := fun a w hc hs _ => wpAnyH_done hr (h a w hc hs) _
theorem WA.two {fuel : Nat} {listed : Array Bool} (i j : Nat) (hr : Region.ready .any ops listed = [i, j])
    (h1 : WO P ops (Q.any P ops S fuel (listed.setIfInBounds i true)) S [(i, false)] n E F Φ) (h2 : WO P ops (Q.any P ops S fuel (listed.setIfInBounds j true)) S [(j, false)] n E F Φ) : WA P ops Q S (fuel + 1) listed n E F Φ :=
  fun a w hc hs hS => wpAnyH_all hr (by simp) fun q hq => by
    simp only [List.mem_cons, List.not_mem_nil, or_false] at hq
    rcases hq with rfl | rfl
    · exact wpOp_mono (fun a' w' h' => ⟨h'.1, h'.2 h'.1⟩) (wpOp_k (h1 a w hc hs hS))
    · exact wpOp_mono (fun a' w' h' => ⟨h'.1, h'.2 h'.1⟩) (wpOp_k (h2 a w hc hs hS))
theorem WC.drawA {id fuel : Nat} (S : World → Prop) (hS : ∀ w, Sat F Φ w → S w) (hm : P.follows .mixedOrders = true) (hf : fuel = ops.size)
    (h : WA P ops Q S fuel (Array.replicate ops.size false) n E F Φ) : WC P (.region id ops true) Q n E F Φ :=
  fun a w hc hs => wp_region_held (S := S) hm (by
    subst hf
    have hs' : Sat F Φ { w with drawn := w.drawn + 1 } := hs.drawn _
    exact h a { w with drawn := w.drawn + 1 } hc hs' (hS _ hs'))

theorem WA.three {fuel : Nat} {listed : Array Bool} (i j l : Nat) (hr : Region.ready .any ops listed = [i, j, l])
    (h1 : WO P ops (Q.any P ops S fuel (listed.setIfInBounds i true)) S [(i, false)] n E F Φ) (h2 : WO P ops (Q.any P ops S fuel (listed.setIfInBounds j true)) S [(j, false)] n E F Φ)
    (h3 : WO P ops (Q.any P ops S fuel (listed.setIfInBounds l true)) S [(l, false)] n E F Φ) : WA P ops Q S (fuel + 1) listed n E F Φ :=
  fun a w hc hs hS => wpAnyH_all hr (by simp) fun q hq => by
    simp only [List.mem_cons, List.not_mem_nil, or_false] at hq
    rcases hq with rfl | rfl | rfl
    · exact wpOp_mono (fun a' w' h' => ⟨h'.1, h'.2 h'.1⟩) (wpOp_k (h1 a w hc hs hS))
    · exact wpOp_mono (fun a' w' h' => ⟨h'.1, h'.2 h'.1⟩) (wpOp_k (h2 a w hc hs hS))
    · exact wpOp_mono (fun a' w' h' => ⟨h'.1, h'.2 h'.1⟩) (wpOp_k (h3 a w hc hs hS))

def Post.seq (N : Act → World → Prop) (Q : Post) : Post := { Q with normal := N }
theorem k_seq {N : Act → World → Prop} {e a w} (h : (Q.seq N).k e a w) : Exit.then N Q.k e a w := by cases e <;> exact h
theorem WC.seq {x y : Code} (N : Act → World → Prop) (hx : WC P x (Q.seq N) n E F Φ) (hy : ∀ a w, N a w → y.wp P Q.k a w) : WC P (.seq x y) Q n E F Φ :=
  fun a w hc hs => wp_seq (wp_mono (hx a w hc hs) fun e a w h => by
    cases e with
    | normal => exact hy a w h
    | _ => exact h)
/-- The first part is a piece whose end is one state. -/
theorem WC.then {x y : Code} (hx : WC P x (Q.seq (y.wp P Q.k)) n E F Φ) : WC P (.seq x y) Q n E F Φ := WC.seq _ hx fun _ _ h => h
theorem WC.skip (h : At Q.normal n E F Φ) : WC P .skip Q n E F Φ := fun a w hc hs => wp_skip (h a w hc hs)
theorem WC.ret (h : At Q.ret n E F Φ) : WC P .ret Q n E F Φ := fun a w hc hs => wp_ret (h a w hc hs)
theorem WC.exit {id : Nat} (h : At (Q.exit id) n E F Φ) : WC P (.exit id) Q n E F Φ := fun a w hc hs => wp_exit (h a w hc hs)
theorem WC.cond {c : Operand} {x y : Code} {t : Bool} (hc : ev E c = some (.bool t)) (h1 : t = true → WC P x Q n E F Φ) (h2 : t = false → WC P y Q n E F Φ) : WC P (.cond c x y) Q n E F Φ :=
  fun a w hctx hs => wp_cond_split (hctx.ev hc) (fun e => h1 e a w hctx hs) (fun e => h2 e a w hctx hs)
theorem WC.condT {c : Operand} {x y : Code} (hc : ev E c = some (.bool true)) (h1 : WC P x Q n E F Φ) : WC P (.cond c x y) Q n E F Φ :=
  fun a w hctx hs => wp_cond_true (hctx.ev hc) (h1 a w hctx hs)
theorem WC.condF {c : Operand} {x y : Code} (hc : ev E c = some (.bool false)) (h1 : WC P y Q n E F Φ) : WC P (.cond c x y) Q n E F Φ :=
  fun a w hctx hs => wp_cond_false (hctx.ev hc) (h1 a w hctx hs)
def Post.block (id : Nat) (Q : Post) : Post := { Q with exit := fun id' a w => if id' = id then Q.normal a w else Q.exit id' a w }
theorem WC.block {id : Nat} {c : Code} (h : WC P c (Q.block id) n E F Φ) : WC P (.block id c) Q n E F Φ :=
  fun a w hc hs => wp_block (wp_mono (h a w hc hs) fun e a w k => by cases e <;> exact k)
/-- What is known is forgotten. -/
theorem WC.of_at {c : Code} (h : At (c.wp P Q.k) n E F Φ) : WC P c Q n E F Φ := h
theorem At.of_wc {c : Code} (h : WC P c Q n E F Φ) : At (c.wp P Q.k) n E F Φ := h
end

/-! ### Loops: a function of the state that says how a round goes -/

/-- 'body' again and again, at most 'k' times. -/
def iterN {S X : Type} (body : S → Option (S ⊕ X)) : Nat → S → Option X
  | 0, _ => none
  | k + 1, s => (body s).bind fun
    | .inl s' => iterN body k s'
    | .inr x => some x

theorem iterN_mono {S X : Type} {body : S → Option (S ⊕ X)} : ∀ {k : Nat} {s : S} {x : X}, iterN body k s = some x → ∀ m, k ≤ m → iterN body m s = some x
  | 0, _, _, h, _, _ => by cases h
  | k + 1, s, x, h, m, hm => by
    obtain ⟨m, rfl⟩ : ∃ j, m = j + 1 := ⟨m - 1, by omega⟩
    simp only [iterN] at h ⊢
    cases hb : body s with
    | none => rw [hb] at h; cases h
    | some r =>
      rw [hb] at h
      cases r with
      | inl s' => exact iterN_mono (k := k) h m (by omega)
      | inr y => exact h

open Classical in
/-- 'body' till it says what comes out; none: it goes on for ever, or falls. -/
noncomputable def loopO {S X : Type} (body : S → Option (S ⊕ X)) (s : S) : Option X :=
  if h : ∃ x k, iterN body k s = some x then some (Classical.choose h) else none

theorem loopO_of {S X : Type} {body : S → Option (S ⊕ X)} {s : S} {k : Nat} {x : X} (h : iterN body k s = some x) : loopO body s = some x := by
  unfold loopO
  have hex : ∃ x k, iterN body k s = some x := ⟨x, k, h⟩
  rw [dif_pos hex]
  obtain ⟨m, hm⟩ := Classical.choose_spec hex
  have h1 := iterN_mono h (max k m) (by omega)
  have h2 := iterN_mono hm (max k m) (by omega)
  rw [h1] at h2
  exact h2.symm
theorem loopO_some {S X : Type} {body : S → Option (S ⊕ X)} {s : S} {x : X} (h : loopO body s = some x) : ∃ k, iterN body k s = some x := by
  unfold loopO at h
  split at h
  · rename_i hex
    obtain ⟨k, hk⟩ := Classical.choose_spec hex
    cases h
    exact ⟨k, hk⟩
  · cases h
theorem loopO_eq {S X : Type} (body : S → Option (S ⊕ X)) (s : S) : loopO body s = (body s).bind fun
    | .inl s' => loopO body s'
    | .inr x => some x := by
  cases hb : body s with
  | none =>
    cases h : loopO body s with
    | none => rfl
    | some x =>
      obtain ⟨k, hk⟩ := loopO_some h
      cases k with
      | zero => cases hk
      | succ k => simp [iterN, hb] at hk
  | some r =>
    cases r with
    | inr x =>
      refine (loopO_of (k := 1) ?_).trans rfl
      simp [iterN, hb]
    | inl s' =>
      simp only [Option.bind_some]
      cases h : loopO body s' with
      | some x =>
        obtain ⟨k, hk⟩ := loopO_some h
        exact loopO_of (k := k + 1) (by simp [iterN, hb, hk])
      | none =>
        cases h' : loopO body s with
        | none => rfl
        | some x =>
          obtain ⟨k, hk⟩ := loopO_some h'
          cases k with
          | zero => cases hk
          | succ k =>
            simp only [iterN, hb, Option.bind_some] at hk
            rw [loopO_of hk] at h
            cases h

/-- A loop. 'I s': what is known at a round's head; 'D x e': what is known where it is left, by exit 'e'. -/
theorem wp_loopO {P : Program} {T X : Type} {c : Code} {Q : Exit → Act → World → Prop} (body : T → Option (T ⊕ X)) (I : T → Act → World → Prop) (x : X)
    (round : ∀ s r, body s = some r → ∀ a w, I s a w → c.wp P (fun e a' w' => match e, r with
      | .normal, .inl s' => I s' a' w'
      | .normal, .inr _ => False
      | _, .inl _ => False
      | e, .inr y => y = x → Q e a' w') a w) :
    ∀ (s : T) a w, loopO body s = some x → I s a w → (Code.loop c).wp P Q a w := by
  intro s a w hx hI b k cs
  obtain ⟨m, hm⟩ := loopO_some hx
  have key : ∀ m s, iterN body m s = some x → ∀ a w, I s a w →
      ∃ e a' w', Q e a' w' ∧ Arrives P (lone (b.at a (.code c :: .inLoop c :: k)) cs w) b k cs e a' w' := by
    intro m
    induction m with
    | zero => intro s h; cases h
    | succ m ih =>
      intro s h a w hI
      simp only [iterN] at h
      cases hb : body s with
      | none => rw [hb] at h; cases h
      | some r =>
        rw [hb] at h
        obtain ⟨e, a₁, w₁, hq, harr⟩ := round s r hb a w hI b (.inLoop c :: k) cs
        cases r with
        | inl s' =>
          cases e with
          | normal =>
            obtain ⟨e₂, a₂, w₂, hq₂, harr₂⟩ := ih s' h a₁ w₁ hq
            exact ⟨e₂, a₂, w₂, hq₂, .of_steps (Steps.trans harr (.one step_inLoop)) harr₂⟩
          | _ => exact hq.elim
        | inr y =>
          have hy : y = x := by simpa using h
          cases e with
          | normal => exact hq.elim
          | exit id => exact ⟨_, a₁, w₁, hq hy, .pass (x := .inLoop c) rfl (fun _ _ => .inl (by simp)) harr⟩
          | goto l => exact ⟨_, a₁, w₁, hq hy, .pass (x := .inLoop c) rfl (fun _ _ => .inl (by simp)) harr⟩
          | ret => exact ⟨_, a₁, w₁, hq hy, .pass (x := .inLoop c) rfl (fun _ _ => .inl (by simp)) harr⟩
          | panic ch => exact ⟨_, a₁, w₁, hq hy, .pass (x := .inLoop c) rfl (fun _ _ => .inl (by simp)) harr⟩
          | outgrown => exact ⟨_, a₁, w₁, hq hy, .pass (x := .inLoop c) rfl (fun _ _ => .inl (by simp)) harr⟩
  obtain ⟨e, a', w', hq, harr⟩ := key m s hm a w hI
  exact ⟨e, a', w', hq, .of_steps (.one step_loop) harr⟩
end Go.Pel

/- Keys and values that are records of whole numbers: their comparison. -/
import Derived.Test.YtmkegcgnjaldpaaPelMaps
import Derived.Laws.StructEq
namespace Go.Pel
open Go.RowKit
def flatGo (P : Program) (k : IntKind) : Nat → List Field → Bool
  | _, [] => true
  | i, f :: l => f.name != "_" && f.offset == i && (match P.underlying f.type with | some (.int q) => q == k | _ => false) && flatGo P k (i + 1) l
def flatB (P : Program) (t : TypeId) (k : IntKind) (n : Nat) : Bool := match P.underlying t with | some (.struct fs) => fs.toList.length == n && flatGo P k 0 fs.toList | _ => false
theorem run_eqFields {P : Program} {k : IntKind} {d : Nat} {us bs : List Int} (hl : us.length = bs.length) (w : World) : ∀ (fs : List Field) (i : Nat), flatGo P k i fs = true → fs.length + i = us.length →
    (Op.eqFields (d + 1) (us.map (Value.int k)).toArray (bs.map (Value.int k)).toArray fs).run P w = .ok (us.drop i == bs.drop i) w
  | [], i, _, h => by
    have h1 : us.drop i = [] := List.drop_eq_nil_of_le (by simp at h; omega)
    have h2 : bs.drop i = [] := List.drop_eq_nil_of_le (by simp at h; omega)
    simp [Op.eqFields, h1, h2]
  | f :: fs, i, hf, h => by
    simp only [flatGo, Bool.and_eq_true, beq_iff_eq, bne_iff_ne] at hf
    obtain ⟨⟨⟨h1, h2⟩, h3⟩, h4⟩ := hf
    cases hu : P.underlying f.type with
    | none => rw [hu] at h3; cases h3
    | some de =>
      rw [hu] at h3
      cases de <;> simp at h3
      rename_i q
      subst h3
      simp only [List.length_cons] at h
      have hia : i < us.length := by omega
      have hib : i < bs.length := by omega
      have hpa : ∀ (l : List Int) (hi : i < l.length), (part f.type (l.map (Value.int q)).toArray f.offset).run P w = .ok (Value.int q l[i]) w := fun l hi => by
        simp [part, isAgg, run_underlying hu, h2, hi]
      simp only [Op.eqFields, h1, ne_eq, not_false_eq_true, if_true, Sem.run_bind, hpa us hia, hpa bs hib, Result.andThen_ok, run_equalIn_int w d f.type _ _ _ _ hu]
      have hd : (us.drop i == bs.drop i) = (us[i] == bs[i] && us.drop (i + 1) == bs.drop (i + 1)) := by
        rw [List.drop_eq_getElem_cons hia, List.drop_eq_getElem_cons hib]; rfl
      have := run_eqFields (P := P) (d := d) hl w fs (i + 1) h4 (by omega)
      rw [hd]
      generalize (us.drop (i + 1) == bs.drop (i + 1)) = r at *
      cases hb : us[i] == bs[i]
      · simp
      · simp [this]
theorem run_equal_flat {P : Program} {t : TypeId} {k : IntKind} {n : Nat} (h : flatB P t k n = true) (hp : P.stoodInHeld t = false) {us bs : List Int} (ha : us.length = n) (hb : bs.length = n) (w : World) :
    (Op.equal t (.agg (us.map (Value.int k)).toArray) (.agg (bs.map (Value.int k)).toArray)).run P w = .ok (us == bs) w := by
  unfold flatB at h
  cases hu : P.underlying t with
  | none => rw [hu] at h; cases h
  | some de =>
    rw [hu] at h
    cases de <;> simp at h
    rename_i fs
    have hfo : P.fieldsOf t = fs := by simp [Program.fieldsOf, hu]
    show (Op.equalIn (9999 + 1) t _ _).run P w = _
    rw [run_equalIn_struct w 9999 t _ _ (by rw [hfo]; exact hu) hp, hfo]
    have := run_eqFields (P := P) (k := k) (d := 9998) (us := us) (bs := bs) (by omega) w fs.toList 0 h.2 (by simp; omega)
    simpa using this
theorem run_check_flat {P : Program} {t : TypeId} {k : IntKind} {n : Nat} (h : flatB P t k n = true) {us : List Int} (ha : us.length = n) (b : Bool) (w : World) : (Instr.checkKey b 10000 t (.agg (us.map (Value.int k)).toArray)).run P w = .ok () w := by
  unfold flatB at h
  cases hu : P.underlying t with
  | none => rw [hu] at h; cases h
  | some de =>
    rw [hu] at h
    cases de <;> simp at h
    rename_i fs
    show (Instr.checkKey b (9999 + 1) t _).run P w = _
    obtain ⟨m, hm⟩ : ∃ m, 9999 = m + 1 := ⟨9998, rfl⟩
    generalize 9999 = N at *
    simp only [Instr.checkKey, run_underlying hu, Sem.run_bind, Result.andThen_ok]
    subst hm
    rw [← Array.forIn_toList]
    have key : ∀ (l : List Field) (i : Nat), flatGo P k i l = true → l.length + i = us.length → (forIn (m := Sem) l PUnit.unit fun f r => do
        if f.name ≠ "_" then do
          Instr.checkKey b (m + 1) f.type (← part f.type (us.map (Value.int k)).toArray f.offset)
          pure (ForInStep.yield PUnit.unit)
        else pure (ForInStep.yield PUnit.unit)).run P w = .ok PUnit.unit w := by
      intro l
      induction l with
      | nil => intro i _ _; rfl
      | cons f l ih =>
        intro i hf hi
        simp only [flatGo, Bool.and_eq_true, beq_iff_eq, bne_iff_ne] at hf
        obtain ⟨⟨⟨h1, h2⟩, h3⟩, h4⟩ := hf
        cases hu : P.underlying f.type with
        | none => rw [hu] at h3; cases h3
        | some de =>
          rw [hu] at h3
          cases de <;> simp at h3
          rename_i q
          subst h3
          simp only [List.length_cons] at hi
          have hia : i < us.length := by omega
          have hpa : (part f.type (us.map (Value.int q)).toArray f.offset).run P w = .ok (Value.int q us[i]) w := by
            simp [part, isAgg, run_underlying hu, h2, hia]
          have hck : ∀ v : Int, (Instr.checkKey b (m + 1) f.type (.int q v)).run P w = .ok () w := fun v => by simp [Instr.checkKey, run_underlying hu]
          have := ih (i + 1) h4 (by omega)
          simp only [List.forIn_cons, h1, ne_eq, not_false_eq_true, if_true, Sem.run_bind, hpa, Result.andThen_ok, hck, Sem.run_pure]
          exact this
    have := key fs.toList 0 h.2 (by simp; omega)
    simp only [this, Result.andThen_ok, Sem.run_pure]
theorem stay_flat {k : IntKind} (us : List Int) : Instr.sameBits 10000 (.agg (us.map (Value.int k)).toArray) (.agg (us.map (Value.int k)).toArray) = true := by
  show Instr.sameBits (9998 + 1 + 1) _ _ = true
  generalize 9998 = n
  simp only [Instr.sameBits, List.size_toArray, BEq.rfl, Bool.true_and]
  rw [List.all_eq_true]
  intro p hp
  have : p.1 = p.2 ∧ ∃ x, p.1 = Value.int k x := by
    simp only [List.zip, List.zipWith_self, List.mem_map] at hp
    obtain ⟨x, ⟨y, _, rfl⟩, rfl⟩ := hp
    exact ⟨rfl, y, rfl⟩
  obtain ⟨e1, x, e2⟩ := this
  rw [← e1, e2]
  simp [Instr.sameBits]
/-- Keys that are records of whole numbers. -/
theorem key_flat {P : Program} {t : TypeId} {k : IntKind} {n : Nat} {K : Type} [DecidableEq K] (cells : K → List Int) (h : flatB P t k n = true) (hp : P.stoodInHeld t = false) (hl : ∀ x, (cells x).length = n) (hi : ∀ x y, cells x = cells y → x = y) :
    KeyB P t (fun x : K => .agg ((cells x).map (Value.int k)).toArray) := by
  refine key_agg ?_ (fun b x w => run_check_flat h (hl x) b w) (fun x y w => ?_) (fun x => stay_flat _)
  · unfold flatB at h
    cases hu : P.underlying t with
    | none => rw [hu] at h; cases h
    | some de => rw [hu] at h; cases de <;> simp at h ⊢
  · rw [run_equal_flat h hp (hl x) (hl y)]
    congr 1
    rw [Bool.eq_iff_iff]
    simp only [beq_iff_eq, decide_eq_true_eq]
    exact ⟨hi x y, fun e => by rw [e]⟩

section
variable {P : Program} {ops : Array Oper} {Q : Post} {S : World → Prop} {n : Nat} {E : Env} {F F0 F1 : Mem} {Φ Φ0 : List (List Chunk)}
variable {i d ty : Nat} {pos : String} {af : Array Edge} {g : Option (Nat × Bool)} {rest : List (Nat × Bool)}
theorem WO.eqFlat {t yt : TypeId} {x y : Operand} {k : IntKind} {m : Nat} (us bs : List Int) (hf : flatB P t k m = true) (hp : P.stoodInHeld t = false) (hm : P.eqGuardType P.depth t = false) (ha : us.length = m) (hb : bs.length = m)
    (ho : ops[i]? = some ⟨some d, .binOp .eql t x y yt, ty, pos, af, g⟩) (hg : gOk ops E g = some true) (hn : Nat.blt d n = true) (hx : ev E x = some (.agg (us.map (Value.int k)).toArray)) (hy : ev E y = some (.agg (bs.map (Value.int k)).toArray))
    (h : WO P ops Q S rest n ((d, .bool (us == bs)) :: E) F Φ) : WO P ops Q S ((i, true) :: rest) n E F Φ :=
  WO.yield ho rfl hg hn (fun a hc w _ => by
    have h1 := run_equal_flat hf hp ha hb w
    have h2 := run_eql_struct (P := P) w t (us.map (Value.int k)).toArray (bs.map (Value.int k)).toArray
    have h3 : (Op.equalIn 10000 t (.agg (us.map (Value.int k)).toArray) (.agg (bs.map (Value.int k)).toArray)).run P w = .ok (us == bs) w := h1
    rw [h3] at h2
    simp only [execOp, hc.ev hx, hc.ev hy, Sem.run_bind, run_eqGuard_agg w .eql t x y _ _ hm, Result.andThen_ok, h2, Sem.run_pure]) h
theorem WO.neFlat {t yt : TypeId} {x y : Operand} {k : IntKind} {m : Nat} (us bs : List Int) (hf : flatB P t k m = true) (hp : P.stoodInHeld t = false) (hm : P.eqGuardType P.depth t = false) (ha : us.length = m) (hb : bs.length = m)
    (ho : ops[i]? = some ⟨some d, .binOp .neq t x y yt, ty, pos, af, g⟩) (hg : gOk ops E g = some true) (hn : Nat.blt d n = true) (hx : ev E x = some (.agg (us.map (Value.int k)).toArray)) (hy : ev E y = some (.agg (bs.map (Value.int k)).toArray))
    (h : WO P ops Q S rest n ((d, .bool (us != bs)) :: E) F Φ) : WO P ops Q S ((i, true) :: rest) n E F Φ :=
  WO.yield ho rfl hg hn (fun a hc w _ => by
    have h1 := run_equal_flat hf hp ha hb w
    have h2 := run_neq_struct (P := P) w t (us.map (Value.int k)).toArray (bs.map (Value.int k)).toArray
    have h3 : (Op.equalIn 10000 t (.agg (us.map (Value.int k)).toArray) (.agg (bs.map (Value.int k)).toArray)).run P w = .ok (us == bs) w := h1
    rw [h3] at h2
    simp only [execOp, hc.ev hx, hc.ev hy, Sem.run_bind, run_eqGuard_agg w .neq t x y _ _ hm, Result.andThen_ok, h2, Sem.run_pure]
    rfl) h
theorem bind_intro {A R : Type} {x : Option A} {f : A → Option R} {a : A} {r : R} (h : x = some a) (k : f a = some r) : x.bind f = some r := by subst h; exact k
/-- The way on behind a pointer that may be nil. -/
theorem elim_none {A R : Type} {x : Option A} {p : Option R} {f : A → Option R} {r : R} (h : x = none) (hr : x.elim p f = some r) : p = some r := by subst h; exact hr
theorem elim_some {A R : Type} {x : Option A} {y : A} {p : Option R} {f : A → Option R} {r : R} (h : x = some y) (hr : x.elim p f = some r) : f y = some r := by subst h; exact hr
end
end Go.Pel

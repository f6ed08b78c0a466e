/- Maps of the call's own: their list of keys and values, in the order in which they were laid. -/
import Derived.Test.YtmkegcgnjaldpaaPelObjs
import Derived.MapKept
import Derived.WideKeyRuns
namespace Go.Pel
open Go.RowKit

/-! ### The list -/
section
variable {K V : Type} [DecidableEq K]
def mget (m : List (K × V)) (k : K) : Option V := (m.find? fun p => decide (p.1 = k)).map (·.2)
def mput (m : List (K × V)) (k : K) (v : V) : List (K × V) := if m.any (fun p => decide (p.1 = k)) then m.map (fun p => if p.1 = k then (k, v) else p) else m ++ [(k, v)]
def mdel (m : List (K × V)) (k : K) : List (K × V) := m.filter fun p => !decide (p.1 = k)
def kfind (x : K) : List K → Nat → Option Nat
  | [], _ => none
  | k :: ks, i => if x = k then some i else kfind x ks (i + 1)
theorem kfind_none {x : K} : ∀ {ks : List K} {i}, kfind x ks i = none → x ∉ ks
  | [], _, _ => by simp
  | k :: ks, i, h => by
    unfold kfind at h
    split at h
    · cases h
    · rename_i hne
      have := kfind_none h
      simp [hne, this]
theorem kfind_some {x : K} : ∀ {ks : List K} {i j}, kfind x ks i = some j → i ≤ j ∧ ks[j - i]? = some x
  | [], _, _, h => by cases h
  | k :: ks, i, j, h => by
    unfold kfind at h
    split at h
    · rename_i e; cases h; subst e; simp
    · obtain ⟨h1, h2⟩ := kfind_some h
      refine ⟨by omega, ?_⟩
      have e1 : j - i = (j - (i + 1)) + 1 := by omega
      rw [e1]; simpa using h2
omit [DecidableEq K] in
theorem nodup_at {l : List K} (h : l.Nodup) {i j : Nat} {x : K} (hi : l[i]? = some x) (hj : l[j]? = some x) : i = j := by
  have h1 := (List.getElem?_eq_some_iff.1 hi).1
  exact (List.getElem?_inj h1 h).1 (hi.trans hj.symm)
end

/-- How keys are written. -/
structure KeyB (P : Program) (k : TypeId) {K : Type} [DecidableEq K] (enc : K → Value) : Prop where
  chk : ∀ (b : Bool) (x : K) (w : World), (Instr.checkKey b 10000 k (enc x)).run P w = .ok () w
  find : ∀ (x : K) (es : List MapEntry) (ks : List K) (w : World), es.map (·.key) = ks.map enc → (Instr.findKey k (enc x) es).run P w = .ok ((kfind x ks 0).bind fun i => es[i]?.map fun e => (i, e.val)) w
  stay : ∀ x, Instr.sameBits 10000 (enc x) (enc x) = true

theorem kfind_shift {K : Type} [DecidableEq K] (x : K) (ks : List K) (i : Nat) : kfind x ks (i + 1) = (kfind x ks i).map (· + 1) := by
  induction ks generalizing i with
  | nil => rfl
  | cons k ks ih =>
    unfold kfind
    split
    · rfl
    · exact ih (i + 1)
theorem kfind_bind {K A : Type} [DecidableEq K] (x : K) (ks : List K) (i : Nat) (f : Nat → Option A) : ((kfind x ks (i + 1)).bind f) = (kfind x ks i).bind fun j => f (j + 1) := by
  rw [kfind_shift]; cases kfind x ks i <;> rfl
theorem key_int {P : Program} {k : TypeId} {q : IntKind} (hk : P.underlying k = some (.int q)) : KeyB P k (fun x : Int => Value.int q x) where
  chk b x w := by
    show (Instr.checkKey b (9999 + 1) k (Value.int q x)).run P w = _
    generalize 9999 = n
    simp [Instr.checkKey, run_underlying hk]
  find x es ks w he := by
    have key : ∀ (es : List MapEntry) (ks : List Int) (i : Nat), es.map (·.key) = ks.map (fun x : Int => Value.int q x) → Instr.findNow (.int q) (.int q x) es i = some ((kfind x ks 0).bind fun j => es[j]?.map fun e => (i + j, e.val)) := by
      intro es
      induction es with
      | nil => intro ks i he; cases ks with | nil => rfl | cons a l => simp at he
      | cons e es ih =>
        intro ks i he
        cases ks with
        | nil => simp at he
        | cons a ks =>
          simp only [List.map_cons, List.cons.injEq] at he
          obtain ⟨h1, h2⟩ := he
          simp only [Instr.findNow, h1, Instr.sameNow, if_true]
          by_cases e1 : x = a
          · subst e1
            simp [kfind]
          · have e2 : (x == a) = false := by simp [e1]
            simp only [e2, kfind, if_neg e1]
            rw [ih ks (i + 1) h2, kfind_bind]
            congr 2
            funext j
            simp only [List.getElem?_cons_succ]
            congr 1
            funext e'
            simp; omega
    have h2 := key es ks 0 he
    simp only [Nat.zero_add] at h2
    exact MapKept.run_findKey hk h2
  stay x := by
    show Instr.sameBits (9999 + 1) _ _ = true
    generalize 9999 = n
    simp [Instr.sameBits]
/-- Keys that are records: their comparison is known. -/
theorem key_agg {P : Program} {k : TypeId} {K : Type} [DecidableEq K] {enc : K → Value} (hwide : (match P.underlying k with | some (.array _ _) | some (.struct _) => true | _ => false) = true)
    (hchk : ∀ (b : Bool) (x : K) (w : World), (Instr.checkKey b 10000 k (enc x)).run P w = .ok () w) (heq : ∀ (x y : K) (w : World), (Op.equal k (enc x) (enc y)).run P w = .ok (decide (x = y)) w)
    (hst : ∀ x, Instr.sameBits 10000 (enc x) (enc x) = true) : KeyB P k enc where
  chk := hchk
  find x es ks w he := by
    rw [run_findKey_eq w hwide]
    have key : ∀ (es : List MapEntry) (ks : List K) (i : Nat), es.map (·.key) = ks.map enc → (Instr.findAsking k (enc x) es i).run P w = .ok ((kfind x ks 0).bind fun j => es[j]?.map fun e => (i + j, e.val)) w := by
      intro es
      induction es with
      | nil => intro ks i he; cases ks with | nil => rfl | cons a l => simp at he
      | cons e es ih =>
        intro ks i he
        cases ks with
        | nil => simp at he
        | cons a ks =>
          simp only [List.map_cons, List.cons.injEq] at he
          obtain ⟨h1, h2⟩ := he
          simp only [Instr.findAsking, h1, Sem.run_bind, heq, Result.andThen_ok]
          by_cases e1 : x = a
          · subst e1
            simp [kfind]
          · simp only [e1, decide_false, Bool.false_eq_true, if_false, kfind]
            rw [ih ks (i + 1) h2, kfind_bind]
            congr 2
            funext j
            simp only [List.getElem?_cons_succ]
            congr 1
            funext e'
            simp; omega
    have h2 := key es ks 0 he
    simp only [Nat.zero_add] at h2
    exact h2
  stay := hst

section
variable {K V : Type} [DecidableEq K] {enc : K → Value} {RV : Mem → Value → V → Prop}
/-- When entries came: each at another time. -/
def Bn (es : List MapEntry) (clock : Nat) : Prop := (∀ e ∈ es, e.born < clock) ∧ (es.map (·.born)).Nodup
theorem Bn.sub {es es' : List MapEntry} {c : Nat} (h : Bn es c) (hs : es'.Sublist es) : Bn es' c := ⟨fun e he => h.1 e (hs.subset he), h.2.sublist (hs.map _)⟩
/-- A map of the call's own. -/
def OwnM (enc : K → Value) (RV : Mem → Value → V → Prop) (F : Mem) (b : Nat) (m : List (K × V)) (ψ : List Chunk) : Prop :=
  ∃ (es : List MapEntry) (clock : Nat), ψ = [(b, .map es.toArray clock)] ∧ es.map (·.key) = (m.map (·.1)).map enc ∧ (∀ (j : Nat) (e : MapEntry) (p : K × V), es[j]? = some e → m[j]? = some p → RV F e.val p.2) ∧ (m.map (·.1)).Nodup ∧ Bn es clock
def MonoV (RV : Mem → Value → V → Prop) : Prop := ∀ (F G : Mem) (v : Value) (x : V), F.le G → RV F v x → RV G v x
def ConstV (RV : Mem → Value → V → Prop) : Prop := ∀ (F G : Mem) (v : Value) (x : V), RV F v x → RV G v x
omit [DecidableEq K] in
theorem OwnM.mono (hR : MonoV RV) {F G : Mem} (h : F.le G) {b m ψ} (k : OwnM enc RV F b m ψ) : OwnM enc RV G b m ψ := by
  obtain ⟨es, c, h1, h2, h3, h4⟩ := k
  exact ⟨es, c, h1, h2, fun j e p k1 k2 => hR _ _ _ _ h (h3 j e p k1 k2), h4⟩
omit [DecidableEq K] in
theorem OwnM.re (hR : ConstV RV) {F G : Mem} {b m ψ} (k : OwnM enc RV F b m ψ) : OwnM enc RV G b m ψ := by
  obtain ⟨es, c, h1, h2, h3, h4⟩ := k
  exact ⟨es, c, h1, h2, fun j e p k1 k2 => hR _ _ _ _ (h3 j e p k1 k2), h4⟩
/-- A value of one cell. -/
def RV1 (R : Mem → List Value → V → Prop) : Mem → Value → V → Prop := fun F v x => v.oneCell' = true ∧ R F [v] x
/-- A value that is a record. -/
def RVA (R : Mem → List Value → V → Prop) : Mem → Value → V → Prop := fun F v x => ∃ cs : List Value, v = .agg cs.toArray ∧ R F cs x
theorem monoV1 {R : Mem → List Value → V → Prop} (h : Mono R) : MonoV (RV1 R) := fun _ _ _ _ hl ⟨h1, h2⟩ => ⟨h1, h _ _ _ _ hl h2⟩
theorem monoVA {R : Mem → List Value → V → Prop} (h : Mono R) : MonoV (RVA R) := fun _ _ _ _ hl ⟨cs, h1, h2⟩ => ⟨cs, h1, h _ _ _ _ hl h2⟩
theorem constV1 {R : Mem → List Value → V → Prop} (h : Const R) : ConstV (RV1 R) := fun _ _ _ _ ⟨h1, h2⟩ => ⟨h1, h _ _ _ _ h2⟩
theorem constVA {R : Mem → List Value → V → Prop} (h : Const R) : ConstV (RVA R) := fun _ _ _ _ ⟨cs, h1, h2⟩ => ⟨cs, h1, h _ _ _ _ h2⟩

omit [DecidableEq K] in
theorem OwnM.nil {F : Mem} {b : Nat} {c : Nat} : OwnM enc RV F b ([] : List (K × V)) [(b, .map #[] c)] := ⟨[], c, rfl, rfl, fun j e p h => by simp at h, by simp, by simp [Bn]⟩

theorem mget_at {m : List (K × V)} (hn : (m.map (·.1)).Nodup) {k : K} {j : Nat} (h : kfind k (m.map (·.1)) 0 = some j) : ∃ v, m[j]? = some (k, v) ∧ mget m k = some v := by
  obtain ⟨_, h2⟩ := kfind_some h
  simp only [Nat.sub_zero, List.getElem?_map] at h2
  obtain ⟨p, hp, hk⟩ := Option.map_eq_some_iff.1 h2
  refine ⟨p.2, by rw [hp, ← hk], ?_⟩
  unfold mget
  cases hf : m.find? fun p => decide (p.1 = k) with
  | none => 
    have := List.find?_eq_none.1 hf p (List.mem_of_getElem? hp)
    simp [hk] at this
  | some q =>
    have hq := List.find?_some hf
    simp only [decide_eq_true_eq] at hq
    have hm := List.mem_of_find?_eq_some hf
    obtain ⟨i, hi⟩ := List.getElem?_of_mem hm
    have hij : i = j := nodup_at hn (x := k) (by rw [List.getElem?_map, hi]; simp [hq]) (by rw [List.getElem?_map, hp]; simp [hk])
    subst hij
    rw [hp] at hi
    cases hi
    rfl
theorem mget_no {m : List (K × V)} {k : K} (h : kfind k (m.map (·.1)) 0 = none) : mget m k = none := by
  have h1 := kfind_none h
  unfold mget
  rw [Option.map_eq_none_iff, List.find?_eq_none]
  intro p hp hk
  simp only [decide_eq_true_eq] at hk
  exact h1 (List.mem_map.2 ⟨p, hp, hk⟩)

variable {P : Program} {ops : Array Oper} {Q : Post} {S : World → Prop} {n : Nat} {E : Env} {F F0 F1 : Mem} {Φ Φ0 : List (List Chunk)}
variable {i d ty : Nat} {pos : String} {af : Array Edge} {g : Option (Nat × Bool)} {rest : List (Nat × Bool)}

theorem OwnM.lookup {k e t : TypeId} (hK : KeyB P k enc) (ht : P.underlying t = some (.map k e)) {b : Nat} {m : List (K × V)} {ψ : List Chunk} (hM : OwnM enc RV F1 b m ψ) {z : Value} {z' : V} (hz : zeroB P e z) (hzR : RV F1 z z') (x : K) :
    ∃ v, RV F1 v ((mget m x).getD z') ∧ ∀ (w : World) (Φ : List (List Chunk)) (F : Mem) (gi : Nat), Sat F Φ w → Φ[gi]? = some ψ → ∀ co, (Instr.lookup t (.map (some b)) (enc x) co).run P w = .ok (if co then .tuple #[v, .bool (mget m x).isSome] else v) w := by
  obtain ⟨es, clock, rfl, h2, h3, h4, h5⟩ := hM
  have hlen : es.length = m.length := by simpa using congrArg List.length h2
  have hrun : ∀ (w : World) (Φ : List (List Chunk)) (F : Mem) (gi : Nat), Sat F Φ w → Φ[gi]? = some [(b, .map es.toArray clock)] → w.heap[b]? = some (.map es.toArray clock) := fun w Φ F gi hs hΦ =>
    hs.mem (List.mem_flatten.2 ⟨_, List.mem_of_getElem? hΦ, by simp⟩)
  cases hk : kfind x (m.map (·.1)) 0 with
  | none =>
    refine ⟨z, by rw [mget_no hk]; exact hzR, fun w Φ F gi hs hΦ co => ?_⟩
    have hf := hK.find x es _ w h2
    rw [hk] at hf
    simp only [Instr.lookup, run_underlying ht, Sem.run_bind, Result.andThen_ok, MapKept.run_getObj_map (hrun w Φ F gi hs hΦ), Sem.run_pure, hK.chk, hf, Option.bind_none, run_zeroValue hz, mget_no hk]
    cases co <;> rfl
  | some j =>
    obtain ⟨v, hv, hg⟩ := mget_at h4 hk
    have hj : j < es.length := by rw [hlen]; exact (List.getElem?_eq_some_iff.1 hv).1
    refine ⟨es[j].val, by rw [hg]; exact h3 j _ _ (List.getElem?_eq_getElem hj) hv, fun w Φ F gi hs hΦ co => ?_⟩
    have hf := hK.find x es _ w h2
    rw [hk] at hf
    simp only [Option.bind_some, List.getElem?_eq_getElem hj, Option.map_some] at hf
    simp only [Instr.lookup, run_underlying ht, Sem.run_bind, Result.andThen_ok, MapKept.run_getObj_map (hrun w Φ F gi hs hΦ), Sem.run_pure, hK.chk, hf, hg]
    cases co <;> rfl

theorem WO.lookup {t k e : TypeId} {x y : Operand} {b : Nat} {m : List (K × V)} {ψ : List Chunk} {q : K} {z : Value} {z' : V} (co : Bool) (gi : Nat) (hK : KeyB P k enc) (hM : OwnM enc RV F1 b m ψ) (hΦ : Φ[gi]? = some ψ) (hz : zeroB P e z) (hzR : RV F1 z z')
    (ho : ops[i]? = some ⟨some d, .lookup t x y co, ty, pos, af, g⟩) (hg : gOk ops E g = some true) (hn : Nat.blt d n = true) (hx : ev E x = some (.map (some b))) (hy : ev E y = some (enc q)) (ht : P.underlying t = some (.map k e))
    (h : ∀ v, RV F1 v ((mget m q).getD z') → WO P ops Q S rest n ((d, if co then .tuple #[v, .bool (mget m q).isSome] else v) :: E) F Φ) : WO P ops Q S ((i, false) :: rest) n E F Φ := by
  obtain ⟨v, hv, hr⟩ := hM.lookup hK ht hz hzR q
  exact WO.val ho rfl hg hn (fun a w hc hs _ => by simp [execOp, hc.ev hx, hc.ev hy, hr w Φ F gi hs hΦ co]) (h v hv)
theorem WO.lookupY {t k e : TypeId} {x y : Operand} {b : Nat} {m : List (K × V)} {ψ : List Chunk} {q : K} {z : Value} {z' : V} (co : Bool) (gi : Nat) (hK : KeyB P k enc) (hM : OwnM enc RV F1 b m ψ) (hΦ : Φ0[gi]? = some ψ) (hz : zeroB P e z) (hzR : RV F1 z z')
    (ho : ops[i]? = some ⟨some d, .lookup t x y co, ty, pos, af, g⟩) (hg : gOk ops E g = some true) (hn : Nat.blt d n = true) (hx : ev E x = some (.map (some b))) (hy : ev E y = some (enc q)) (ht : P.underlying t = some (.map k e))
    (h : ∀ v, RV F1 v ((mget m q).getD z') → WO P ops Q (Sat F0 Φ0) rest n ((d, if co then .tuple #[v, .bool (mget m q).isSome] else v) :: E) F Φ) : WO P ops Q (Sat F0 Φ0) ((i, true) :: rest) n E F Φ := by
  obtain ⟨v, hv, hr⟩ := hM.lookup hK ht hz hzR q
  exact WO.yield ho rfl hg hn (fun a hc w hs => by simp [execOp, hc.ev hx, hc.ev hy, hr w Φ0 F0 gi hs hΦ co]) (h v hv)
omit [DecidableEq K] in
theorem WO.makeMap {t : TypeId} (ho : ops[i]? = some ⟨some d, .makeMap t none, ty, pos, af, g⟩) (hg : gOk ops E g = some true) (hn : Nat.blt d n = true)
    (hS : ∀ ψ w, Sat F (ψ :: Φ) w → S w) (h : ∀ b ψ, OwnM enc RV F1 b ([] : List (K × V)) ψ → WO P ops Q S rest n ((d, .map (some b)) :: E) F (ψ :: Φ)) : WO P ops Q S ((i, false) :: rest) n E F Φ :=
  WO.valW ho rfl hg hn fun a w hc hs _ => by
    have hs' := hs.alloc (.map #[] 0)
    refine ⟨_, _, F, _, ?_, hs', hS _ _ hs', h w.heap.size _ OwnM.nil⟩
    simp only [execOp, Instr.makeMap, Sem.run_bind, Sem.run_pure]
    rfl
theorem run_lenM {t k e : TypeId} (ht : P.underlying t = some (.map k e)) {w : World} {b : Nat} {es : List MapEntry} {clock : Nat} (hb : w.heap[b]? = some (.map es.toArray clock)) (ty : TypeId) :
    (Builtin.len_ #[t] ty #[.map (some b)]).run P w = .ok (.int .i64 es.length) w := by
  simp [Builtin.len_, run_underlying ht, MapKept.run_getObj_map hb, goInt]
omit [DecidableEq K] in
theorem WO.lenM {t k e : TypeId} {x : Operand} {b : Nat} {m : List (K × V)} {ψ : List Chunk} (gi : Nat) (hM : OwnM enc RV F1 b m ψ) (hΦ : Φ[gi]? = some ψ)
    (ho : ops[i]? = some ⟨some d, .call ⟨.builtin .len, #[x], #[t]⟩, ty, pos, af, g⟩) (hg : gOk ops E g = some true) (hn : Nat.blt d n = true) (hx : ev E x = some (.map (some b))) (ht : P.underlying t = some (.map k e))
    (h : WO P ops Q S rest n ((d, .int .i64 (m.length : Int)) :: E) F Φ) : WO P ops Q S ((i, false) :: rest) n E F Φ := by
  obtain ⟨es, clock, rfl, h2, h3, h4, h5⟩ := hM
  have hlen : es.length = m.length := by simpa using congrArg List.length h2
  refine WO.val ho rfl hg hn (fun a w hc hs _ => ?_) h
  have hb : w.heap[b]? = some (.map es.toArray clock) := hs.mem (List.mem_flatten.2 ⟨_, List.mem_of_getElem? hΦ, by simp⟩)
  obtain ⟨cs, hbr⟩ := run_builtin (P := P) (d := some d) (ty := ty) (pos := pos) (af := af) (g := g) .len [x] #[t] a [.map (some b)] (by simp [hc.ev hx]) w
  have hr := run_lenM (P := P) ht hb ty
  rw [hbr]
  simp [builtin, hr, hlen]

theorem keys_put {m : List (K × V)} {q : K} {v : V} {j : Nat} (hn : (m.map (·.1)).Nodup) (hk : kfind q (m.map (·.1)) 0 = some j) : mput m q v = m.set j (q, v) := by
  obtain ⟨u, hu, _⟩ := mget_at hn hk
  have hany : m.any (fun p => decide (p.1 = q)) = true := List.any_eq_true.2 ⟨_, List.mem_of_getElem? hu, by simp⟩
  unfold mput
  rw [if_pos hany]
  apply List.ext_getElem?
  intro i
  rw [List.getElem?_map, List.getElem?_set]
  cases hi : m[i]? with
  | none =>
    have hle := List.getElem?_eq_none_iff.1 hi
    have hj := (List.getElem?_eq_some_iff.1 hu).1
    rw [if_neg (by omega)]; rfl
  | some p =>
    by_cases hji : j = i
    · subst hji
      rw [hu] at hi; cases hi
      simp [(List.getElem?_eq_some_iff.1 hu).1]
    · rw [if_neg hji]
      have : p.1 ≠ q := fun e => hji (nodup_at hn (x := q) (by rw [List.getElem?_map, hu]; rfl) (by rw [List.getElem?_map, hi]; simp [e]))
      simp [this]
theorem keys_new {m : List (K × V)} {q : K} {v : V} (hk : kfind q (m.map (·.1)) 0 = none) : mput m q v = m ++ [(q, v)] := by
  have h1 := kfind_none hk
  unfold mput
  rw [if_neg]
  intro h
  obtain ⟨p, hp, e⟩ := List.any_eq_true.1 h
  exact h1 (List.mem_map.2 ⟨p, hp, by simpa using e⟩)

theorem OwnM.update {k e t : TypeId} (hK : KeyB P k enc) (ht : P.underlying t = some (.map k e)) {b : Nat} {m : List (K × V)} {ψ : List Chunk} (hM : OwnM enc RV F1 b m ψ) {q : K} {v : Value} {x : V} (hv : RV F1 v x) :
    ∃ ψ', OwnM enc RV F1 b (mput m q x) ψ' ∧ ∀ (w : World) (Φ : List (List Chunk)) (F : Mem) (gi : Nat), Sat F Φ w → Φ[gi]? = some ψ → ∃ w', (Instr.mapUpdate t (.map (some b)) (enc q) v).run P w = .ok () w' ∧ Sat F (Φ.set gi ψ') w' := by
  obtain ⟨es, clock, rfl, h2, h3, h4, h5⟩ := hM
  have hlen : es.length = m.length := by simpa using congrArg List.length h2
  cases hk : kfind q (m.map (·.1)) 0 with
  | none =>
    refine ⟨[(b, .map (es ++ [({ key := enc q, val := v, born := clock } : MapEntry)]).toArray (clock + 1))], ?_, fun w Φ F gi hs hΦ => ?_⟩
    · rw [keys_new hk]
      refine ⟨_, _, rfl, by simp [h2], fun j e' p k1 k2 => ?_, ?_, ?_⟩
      · rcases Nat.lt_or_ge j es.length with hj | hj
        · rw [List.getElem?_append_left hj] at k1
          rw [List.getElem?_append_left (by rw [← hlen]; exact hj)] at k2
          exact h3 j e' p k1 k2
        · rw [List.getElem?_append_right hj] at k1
          rw [List.getElem?_append_right (by rw [← hlen]; exact hj), ← hlen] at k2
          cases hjj : j - es.length with
          | zero =>
            rw [hjj] at k1 k2
            simp at k1 k2
            subst k1; subst k2; exact hv
          | succ r => rw [hjj] at k1; simp at k1
      · rw [List.map_append, List.nodup_append]
        refine ⟨h4, by simp, fun a ha c hc e => ?_⟩
        simp at hc
        subst hc; subst e
        exact kfind_none hk ha
      · refine ⟨fun e he => ?_, ?_⟩
        · rcases List.mem_append.1 he with he | he
          · have := h5.1 e he; omega
          · rw [List.mem_singleton.1 he]; simp
        · rw [List.map_append, List.nodup_append]
          refine ⟨h5.2, by simp, fun a ha c hc e => ?_⟩
          simp at hc
          obtain ⟨x, hx, hx2⟩ := List.mem_map.1 ha
          have := h5.1 x hx
          omega
    · have hb : w.heap[b]? = some (.map es.toArray clock) := hs.mem (List.mem_flatten.2 ⟨_, List.mem_of_getElem? hΦ, by simp⟩)
      have hf := hK.find q es _ w h2
      rw [hk] at hf
      refine ⟨_, ?_, hs.setObj hΦ _⟩
      simp only [Instr.mapUpdate, run_underlying ht, Sem.run_bind, Result.andThen_ok, MapKept.run_getObj_map hb, hK.chk, hf, Option.bind_none, MapKept.run_setObj_map _ hb]
      simp
  | some j =>
    obtain ⟨u, hu, hg⟩ := mget_at h4 hk
    have hj : j < es.length := by rw [hlen]; exact (List.getElem?_eq_some_iff.1 hu).1
    have hjk : es[j].key = enc q := by
      have h5 := congrArg (fun l => l[j]?) h2
      simp only [List.getElem?_map, List.getElem?_eq_getElem hj, hu, Option.map_some] at h5
      simpa using h5
    refine ⟨[(b, .map (es.set j { es[j] with key := enc q, val := v }).toArray clock)], ?_, fun w Φ F gi hs hΦ => ?_⟩
    · rw [keys_put h4 hk]
      refine ⟨_, _, rfl, ?_, fun i e' p k1 k2 => ?_, ?_, ?_⟩
      · rw [List.map_set, List.map_set, List.map_set, h2]
      · rw [List.getElem?_set] at k1 k2
        split at k1
        · rename_i hji
          subst hji
          rw [if_pos rfl] at k2
          rw [if_pos (by rw [← hlen]; exact hj)] at k2
          first
            | (cases k1; cases k2; exact hv)
            | (rw [if_pos hj] at k1; cases k1; cases k2; exact hv)
        · rename_i hji
          rw [if_neg hji] at k2
          exact h3 i e' p k1 k2
      · rw [List.map_set]
        have : (m.map (·.1)).set j q = m.map (·.1) := by
          apply List.ext_getElem?
          intro i
          rw [List.getElem?_set]
          split
          · rename_i e; subst e
            rw [List.getElem?_map, hu]
            simp [(List.getElem?_eq_some_iff.1 hu).1]
          · rfl
        rw [this]; exact h4
      · have hborn : (es.set j { es[j] with key := enc q, val := v }).map (·.born) = es.map (·.born) := by
          rw [List.map_set]
          apply List.ext_getElem?
          intro i
          rw [List.getElem?_set]
          split
          · rename_i e; subst e
            simp [hj]
          · rfl
        refine ⟨fun e he => ?_, by rw [hborn]; exact h5.2⟩
        have h6 : e.born ∈ (es.set j { es[j] with key := enc q, val := v }).map (·.born) := List.mem_map.2 ⟨e, he, rfl⟩
        rw [hborn] at h6
        obtain ⟨x, hx, hx2⟩ := List.mem_map.1 h6
        have := h5.1 x hx
        omega
    · have hb : w.heap[b]? = some (.map es.toArray clock) := hs.mem (List.mem_flatten.2 ⟨_, List.mem_of_getElem? hΦ, by simp⟩)
      have hf := hK.find q es _ w h2
      rw [hk] at hf
      simp only [Option.bind_some, List.getElem?_eq_getElem hj, Option.map_some] at hf
      refine ⟨_, ?_, hs.setObj hΦ _⟩
      have hst : (Instr.keyThatStays (enc q) (enc q)).run P w = .ok (enc q) w := by simp [Instr.keyThatStays, hK.stay q]
      have hmod : es.toArray.modify j (fun e => { e with key := enc q, val := v }) = (es.set j { es[j] with key := enc q, val := v }).toArray := by
        apply Array.ext'
        rw [Array.toList_modify]
        simp [List.modify_eq_set, hj]
      simp only [Instr.mapUpdate, run_underlying ht, Sem.run_bind, Result.andThen_ok, MapKept.run_getObj_map hb, hK.chk, hf, List.getElem?_toArray, List.getElem?_eq_getElem hj, Option.map_some, Option.getD_some, hjk, hst, hmod, MapKept.run_setObj_map _ hb]
theorem WO.mapUpdate {t k e : TypeId} {x y z : Operand} {b : Nat} {m : List (K × V)} {ψ : List Chunk} {q : K} {v : Value} {u : V} (gi : Nat) (hK : KeyB P k enc) (hM : OwnM enc RV F1 b m ψ) (hΦ : Φ[gi]? = some ψ) (hv : RV F1 v u)
    (ho : ops[i]? = some ⟨none, .mapUpdate t x y z, ty, pos, af, g⟩) (hg : gOk ops E g = some true) (hx : ev E x = some (.map (some b))) (hy : ev E y = some (enc q)) (hz : ev E z = some v) (ht : P.underlying t = some (.map k e))
    (hS : ∀ ψ' w, Sat F (Φ.set gi ψ') w → S w) (h : ∀ ψ', OwnM enc RV F1 b (mput m q u) ψ' → WO P ops Q S rest n E F (Φ.set gi ψ')) : WO P ops Q S ((i, false) :: rest) n E F Φ := by
  obtain ⟨ψ', h1, h2⟩ := hM.update hK ht (q := q) hv
  refine WO.unitW ho rfl hg fun a w hc hs _ => ?_
  obtain ⟨w', hr, hs'⟩ := h2 w Φ F gi hs hΦ
  exact ⟨w', F, _, by simp [execOp, hc.ev hx, hc.ev hy, hc.ev hz, hr], hs', hS _ _ hs', h ψ' h1⟩
omit [DecidableEq K] in
theorem WO.lenMY {t k e : TypeId} {x : Operand} {b : Nat} {m : List (K × V)} {ψ : List Chunk} (gi : Nat) (hM : OwnM enc RV F1 b m ψ) (hΦ : Φ0[gi]? = some ψ)
    (ho : ops[i]? = some ⟨some d, .call ⟨.builtin .len, #[x], #[t]⟩, ty, pos, af, g⟩) (hg : gOk ops E g = some true) (hn : Nat.blt d n = true) (hx : ev E x = some (.map (some b))) (ht : P.underlying t = some (.map k e))
    (h : WO P ops Q (Sat F0 Φ0) rest n ((d, .int .i64 (m.length : Int)) :: E) F Φ) : WO P ops Q (Sat F0 Φ0) ((i, true) :: rest) n E F Φ := by
  obtain ⟨es, clock, rfl, h2, h3, h4, h5⟩ := hM
  have hlen : es.length = m.length := by simpa using congrArg List.length h2
  refine WO.yield ho rfl hg hn (fun a hc w hs => ?_) h
  have hb : w.heap[b]? = some (.map es.toArray clock) := hs.mem (List.mem_flatten.2 ⟨_, List.mem_of_getElem? hΦ, by simp⟩)
  obtain ⟨cs, hbr⟩ := run_builtin (P := P) (d := some d) (ty := ty) (pos := pos) (af := af) (g := g) .len [x] #[t] a [.map (some b)] (by simp [hc.ev hx]) w
  have hr := run_lenM (P := P) ht hb ty
  rw [hbr]
  simp [builtin, hr, hlen]
theorem mdel_at {m : List (K × V)} (hn : (m.map (·.1)).Nodup) {q : K} {j : Nat} (h : kfind q (m.map (·.1)) 0 = some j) : mdel m q = m.eraseIdx j := by
  obtain ⟨u, hu, hu0⟩ := mget_at hn h
  unfold mdel
  clear h hu0
  induction m generalizing j with
  | nil => simp at hu
  | cons p m ih =>
    simp only [List.map_cons, List.nodup_cons] at hn
    cases j with
    | zero =>
      simp at hu; subst hu
      simp only [List.eraseIdx_cons_zero, decide_true, Bool.not_true, List.filter_cons_of_neg, Bool.false_eq_true, not_false_eq_true]
      rw [List.filter_eq_self]
      intro p hp
      simp only [Bool.not_eq_true', decide_eq_false_iff_not]
      exact fun e => hn.1 (List.mem_map.2 ⟨p, hp, e⟩)
    | succ j =>
      have hu' : m[j]? = some (q, u) := by simpa using hu
      have hp : p.1 ≠ q := fun e => hn.1 (List.mem_map.2 ⟨_, List.mem_of_getElem? hu', e.symm⟩)
      rw [List.filter_cons_of_pos (by simpa using hp), List.eraseIdx_cons_succ, ih hn.2 hu']
theorem mdel_no {m : List (K × V)} {q : K} (h : kfind q (m.map (·.1)) 0 = none) : mdel m q = m := by
  have h1 := kfind_none h
  unfold mdel
  rw [List.filter_eq_self]
  intro p hp
  simp only [Bool.not_eq_true', decide_eq_false_iff_not]
  exact fun e => h1 (List.mem_map.2 ⟨p, hp, e⟩)
theorem map_eraseIdx' {A B : Type} (f : A → B) : ∀ (l : List A) (j : Nat), (l.eraseIdx j).map f = (l.map f).eraseIdx j
  | [], _ => rfl
  | _ :: _, 0 => rfl
  | a :: l, j + 1 => by simp [map_eraseIdx' f l j]
theorem getElem?_eraseIdx_sub {A : Type} {l : List A} {j i : Nat} {x : A} (h : (l.eraseIdx j)[i]? = some x) : l[if i < j then i else i + 1]? = some x := by
  rw [List.getElem?_eraseIdx] at h
  split at h <;> rename_i hc <;> simp [hc, h]
theorem OwnM.delete {k e t t2 : TypeId} (hK : KeyB P k enc) (ht : P.underlying t = some (.map k e)) {b : Nat} {m : List (K × V)} {ψ : List Chunk} (hM : OwnM enc RV F1 b m ψ) (q : K) (ty : TypeId) :
    ∃ ψ', OwnM enc RV F1 b (mdel m q) ψ' ∧ ∀ (w : World) (Φ : List (List Chunk)) (F : Mem) (gi : Nat), Sat F Φ w → Φ[gi]? = some ψ → ∃ w', (Builtin.delete_ #[t, t2] ty #[.map (some b), enc q]).run P w = .ok (.tuple #[]) w' ∧ Sat F (Φ.set gi ψ') w' := by
  obtain ⟨es, clock, rfl, h2, h3, h4, h5⟩ := hM
  have hlen : es.length = m.length := by simpa using congrArg List.length h2
  cases hk : kfind q (m.map (·.1)) 0 with
  | none =>
    refine ⟨[(b, .map es.toArray clock)], by rw [mdel_no hk]; exact ⟨es, clock, rfl, h2, h3, h4, h5⟩, fun w Φ F gi hs hΦ => ?_⟩
    have hb : w.heap[b]? = some (.map es.toArray clock) := hs.mem (List.mem_flatten.2 ⟨_, List.mem_of_getElem? hΦ, by simp⟩)
    have hf := hK.find q es _ w h2
    rw [hk] at hf
    refine ⟨_, ?_, hs.setObj hΦ _⟩
    simp [Builtin.delete_, run_underlying ht, MapKept.run_getObj_map hb, hK.chk, hf, MapKept.run_setObj_map _ hb]
  | some j =>
    obtain ⟨u, hu, hg⟩ := mget_at h4 hk
    have hj : j < es.length := by rw [hlen]; exact (List.getElem?_eq_some_iff.1 hu).1
    refine ⟨[(b, .map (es.eraseIdx j).toArray clock)], ?_, fun w Φ F gi hs hΦ => ?_⟩
    · rw [mdel_at h4 hk]
      refine ⟨_, _, rfl, ?_, fun i e' p k1 k2 => ?_, ?_, h5.sub (List.eraseIdx_sublist ..)⟩
      · rw [map_eraseIdx', map_eraseIdx', map_eraseIdx', h2]
      · exact h3 _ e' p (getElem?_eraseIdx_sub k1) (getElem?_eraseIdx_sub k2)
      · rw [map_eraseIdx']
        exact h4.sublist (List.eraseIdx_sublist ..)
    · have hb : w.heap[b]? = some (.map es.toArray clock) := hs.mem (List.mem_flatten.2 ⟨_, List.mem_of_getElem? hΦ, by simp⟩)
      have hf := hK.find q es _ w h2
      rw [hk] at hf
      simp only [Option.bind_some, List.getElem?_eq_getElem hj, Option.map_some] at hf
      refine ⟨_, ?_, hs.setObj hΦ _⟩
      have he : es.toArray.eraseIdxIfInBounds j = (es.eraseIdx j).toArray := by
        apply Array.ext'
        simp [Array.eraseIdxIfInBounds, hj]
      simp [Builtin.delete_, run_underlying ht, MapKept.run_getObj_map hb, hK.chk, hf, MapKept.run_setObj_map _ hb, he]
theorem WO.delete0 {t t2 k e : TypeId} {x y : Operand} {b : Nat} {m : List (K × V)} {ψ : List Chunk} {q : K} (gi : Nat) (hK : KeyB P k enc) (hM : OwnM enc RV F1 b m ψ) (hΦ : Φ[gi]? = some ψ)
    (ho : ops[i]? = some ⟨none, .call ⟨.builtin .delete, #[x, y], #[t, t2]⟩, ty, pos, af, g⟩) (hg : gOk ops E g = some true) (hx : ev E x = some (.map (some b))) (hy : ev E y = some (enc q)) (ht : P.underlying t = some (.map k e))
    (hS : ∀ ψ' w, Sat F (Φ.set gi ψ') w → S w) (h : ∀ ψ', OwnM enc RV F1 b (mdel m q) ψ' → WO P ops Q S rest n E F (Φ.set gi ψ')) : WO P ops Q S ((i, false) :: rest) n E F Φ := by
  obtain ⟨ψ', h1, h2⟩ := hM.delete (t2 := t2) hK ht q ty
  refine WO.act ho hg fun a w hc hs _ => ?_
  obtain ⟨w', hr, hs'⟩ := h2 w Φ F gi hs hΦ
  unfold Oper.wp
  obtain ⟨cs, hbr⟩ := run_builtin (P := P) (d := none) (ty := ty) (pos := pos) (af := af) (g := g) .delete [x, y] #[t, t2] a [.map (some b), enc q] (by simp [hc.ev hx, hc.ev hy]) w
  rw [hbr]
  simp only [builtin, hr, Result.andThen_ok, Sem.run_bind, Sem.run_pure]
  exact ⟨hS _ _ hs', h ψ' h1 _ _ hc hs' (hS _ _ hs')⟩
omit [DecidableEq K] in
theorem WO.clearM {t k e : TypeId} {x : Operand} {b : Nat} {m : List (K × V)} {ψ : List Chunk} (gi : Nat) (hM : OwnM enc RV F1 b m ψ) (hΦ : Φ[gi]? = some ψ)
    (ho : ops[i]? = some ⟨none, .call ⟨.builtin .clear, #[x], #[t]⟩, ty, pos, af, g⟩) (hg : gOk ops E g = some true) (hx : ev E x = some (.map (some b))) (ht : P.underlying t = some (.map k e))
    (hS : ∀ ψ' w, Sat F (Φ.set gi ψ') w → S w) (h : ∀ ψ', OwnM enc RV F1 b ([] : List (K × V)) ψ' → WO P ops Q S rest n E F (Φ.set gi ψ')) : WO P ops Q S ((i, false) :: rest) n E F Φ := by
  obtain ⟨es, clock, rfl, h2, h3, h4, h5⟩ := hM
  refine WO.act ho hg fun a w hc hs _ => ?_
  have hb : w.heap[b]? = some (.map es.toArray clock) := hs.mem (List.mem_flatten.2 ⟨_, List.mem_of_getElem? hΦ, by simp⟩)
  unfold Oper.wp
  obtain ⟨cs, hbr⟩ := run_builtin (P := P) (d := none) (ty := ty) (pos := pos) (af := af) (g := g) .clear [x] #[t] a [.map (some b)] (by simp [hc.ev hx]) w
  have hr : (Builtin.clear_ #[t] ty #[.map (some b)]).run P w = .ok (.tuple #[]) { w with heap := w.heap.setIfInBounds b (.map #[] clock) } := by
    simp [Builtin.clear_, run_underlying ht, MapKept.run_getObj_map hb, MapKept.run_setObj_map _ hb]
  rw [hbr]
  simp only [builtin, hr, Result.andThen_ok, Sem.run_bind, Sem.run_pure]
  have hs' := hs.setObj hΦ (.map #[] clock)
  exact ⟨hS _ _ hs', h _ OwnM.nil _ _ hc hs' (hS _ _ hs')⟩
end
end Go.Pel

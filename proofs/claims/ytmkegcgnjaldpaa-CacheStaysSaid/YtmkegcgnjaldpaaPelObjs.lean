/- Rules on own lists of records, on their places; on records that live on. -/
import Derived.Test.YtmkegcgnjaldpaaPelSlices
namespace Go.Pel
open Go.RowKit

section
variable {P : Program} {ops : Array Oper} {Q : Post} {S : World → Prop} {n : Nat} {E : Env} {F F0 F1 : Mem} {Φ Φ0 : List (List Chunk)}
variable {i d ty : Nat} {pos : String} {af : Array Edge} {g : Option (Nat × Bool)} {rest : List (Nat × Bool)} {X : Type} {sz : Nat} {R : Mem → List Value → X → Prop}

/-- Place 'k' of an own list, and its cells. -/
def QAt (sz : Nat) (R : Mem → List Value → X → Prop) (F : Mem) (e b c : Nat) (xs : List X) (ψ : List Chunk) (k : Nat) (cs : List Value) : Prop :=
  ∃ gs sp, ψ = [(b, row (gs.flatten ++ sp) e)] ∧ Rs sz R F gs xs ∧ gs[k]? = some cs ∧ xs.length ≤ c ∧ (gs.flatten ++ sp).length = c * sz
theorem QAt.mono (hR : Mono R) {F G : Mem} (h : F.le G) {e b c : Nat} {xs : List X} {ψ k cs} (q : QAt sz R F e b c xs ψ k cs) : QAt sz R G e b c xs ψ k cs := by
  obtain ⟨gs, sp, h1, h2, h3, h4, h5⟩ := q
  exact ⟨gs, sp, h1, h2.mono hR h, h3, h4, h5⟩

theorem flatten_set {gs : List (List Value)} (hl : ∀ c ∈ gs, c.length = sz) {k : Nat} {cs : List Value} (hk : gs[k]? = some cs) :
    ∃ A B, gs.flatten = A ++ cs ++ B ∧ A.length = k * sz ∧ ∀ cs', (gs.set k cs').flatten = A ++ cs' ++ B := by
  induction gs generalizing k with
  | nil => simp at hk
  | cons c gs ih =>
    cases k with
    | zero =>
      simp at hk; subst hk
      exact ⟨[], gs.flatten, by simp, by simp, fun cs' => by simp⟩
    | succ k =>
      obtain ⟨A, B, h1, h2, h3⟩ := ih (fun c' h' => hl c' (List.mem_cons_of_mem _ h')) (k := k) (by simpa using hk)
      refine ⟨c ++ A, B, by simp [h1], ?_, fun cs' => ?_⟩
      · rw [List.length_append, h2, hl c (List.mem_cons_self ..), Nat.succ_mul]; omega
      · simp [h3 cs']
theorem OwnL.qat {e : TypeId} {a : Option Addr} {c : Nat} {xs : List X} {ψ} (h : OwnL sz R F e a c xs ψ) {k : Nat} {v : X} (hx : xs[k]? = some v) :
    ∃ b cs, a = some ⟨b, 0, none⟩ ∧ R F cs v ∧ QAt sz R F e b c xs ψ k cs := by
  obtain ⟨b, gs, sp, h1, h2, h3, h4⟩ := h.at hx
  have hk : k < gs.length := by rw [h3.1]; exact (List.getElem?_eq_some_iff.1 hx).1
  have h5 := h3.2 k gs[k] v (List.getElem?_eq_getElem hk) hx
  exact ⟨b, gs[k], h1, h5.2.1, gs, sp, h2, h3, List.getElem?_eq_getElem hk, h.1, h4⟩
theorem QAt.parts {F : Mem} {e b c : Nat} {xs : List X} {ψ : List Chunk} {k : Nat} {cs : List Value} (h : QAt sz R F e b c xs ψ k cs) : ∃ A B, ψ = [(b, row (A ++ cs ++ B) e)] ∧ A.length = k * sz ∧ cs.length = sz ∧
    ∀ cs' x', cs'.length = sz → R F cs' x' → cs'.all Value.oneCell' = true → OwnL sz R F e (some ⟨b, 0, none⟩) c (xs.set k x') [(b, row (A ++ cs' ++ B) e)] ∧ QAt sz R F e b c (xs.set k x') [(b, row (A ++ cs' ++ B) e)] k cs' := by
  obtain ⟨gs, sp, h2, h3, hk, h0, h4⟩ := h
  obtain ⟨A, B, e1, e2, e3⟩ := flatten_set h3.lens (k := k) (cs := cs) hk
  have hkl : k < gs.length := (List.getElem?_eq_some_iff.1 hk).1
  have hlen : cs.length = sz := h3.lens cs (List.mem_of_getElem? hk)
  refine ⟨A, B ++ sp, ?_, e2, hlen, fun cs' x' k1 k2 k3 => ?_⟩
  · rw [h2, e1]; simp
  · have e4 : A ++ cs' ++ (B ++ sp) = (gs.set k cs').flatten ++ sp := by rw [e3 cs']; simp
    have e5 : ((gs.set k cs').flatten ++ sp).length = c * sz := by
      rw [← h4, e3 cs', e1]
      simp [k1, hlen]
    rw [e4]
    exact ⟨⟨by simpa using h0, .inr ⟨b, gs.set k cs', sp, rfl, rfl, h3.set k k1 k2 k3, e5⟩⟩, gs.set k cs', sp, rfl, h3.set k k1 k2 k3, by simp [hkl], by simpa using h0, e5⟩
theorem QAt.cell {e b c : Nat} {xs : List X} {ψ : List Chunk} {k : Nat} {cs : List Value} (h : QAt sz R F e b c xs ψ k cs) {w : World} {gi : Nat} (hs : Sat F0 Φ w) (hΦ : Φ[gi]? = some ψ) {j : Nat} {v : Value} (hv : cs[j]? = some v) :
    w.cell? ⟨b, k * sz + j, none⟩ = some v := by
  obtain ⟨A, B, rfl, h2, _⟩ := h.parts
  have hm : (b, row (A ++ cs ++ B) e) ∈ Φ.flatten := List.mem_flatten.2 ⟨_, List.mem_of_getElem? hΦ, by simp⟩
  have hj : j < cs.length := (List.getElem?_eq_some_iff.1 hv).1
  refine cell_of (hs.mem hm) ?_
  rw [← h2, List.getElem?_toArray, List.append_assoc, List.getElem?_append_right (by omega), Nat.add_sub_cancel_left, List.getElem?_append_left hj]
  exact hv

theorem WO.indexQ {t e : TypeId} {x y : Operand} {a : Option Addr} {l c : Nat} {k : IntKind} {q : Int} {xs : List X} {v : X} {ψ : List Chunk} (hO : OwnL sz R F1 e a c xs ψ) (hv : getI xs q = some v)
    (ho : ops[i]? = some ⟨some d, .indexAddr t x y, ty, pos, af, g⟩) (hg : gOk ops E g = some true) (hn : Nat.blt d n = true) (hx : ev E x = some (.slice a l c)) (hl : l = xs.length) (hy : ev E y = some (.int k q))
    (ht : P.underlying t = some (.slice e)) (hsz : sizeB P e sz = true)
    (h : ∀ b cs, a = some ⟨b, 0, none⟩ → R F1 cs v → QAt sz R F1 e b c xs ψ q.toNat cs → WO P ops Q S rest n ((d, .pointer (some ⟨b, q.toNat * sz, none⟩)) :: E) F Φ) : WO P ops Q S ((i, true) :: rest) n E F Φ := by
  obtain ⟨h0, h1, h2⟩ := getI_some hv
  obtain ⟨b, cs, rfl, h3, h4⟩ := hO.qat h2
  subst hl
  exact WO.yield ho rfl hg hn (fun a hc w _ => by simp [execOp, hc.ev hx, hc.ev hy, run_indexAt ht hsz h0 h1]) (h b cs rfl h3 h4)
theorem WO.loadQ {t : TypeId} {x : Operand} {e b c p k : Nat} {xs : List X} {ψ : List Chunk} {cs : List Value} {v : Value} (gi fo : Nat) (hQ : QAt sz R F1 e b c xs ψ k cs) (hΦ : Φ[gi]? = some ψ)
    (ho : ops[i]? = some ⟨some d, .load t x, ty, pos, af, g⟩) (hg : gOk ops E g = some true) (hn : Nat.blt d n = true) (hx : ev E x = some (.pointer (some ⟨b, p, none⟩))) (hp : p = k * sz + fo) (ht : scalarB P t = true) (hv : cs[fo]? = some v)
    (h : WO P ops Q S rest n ((d, v) :: E) F Φ) : WO P ops Q S ((i, false) :: rest) n E F Φ :=
  WO.val ho rfl hg hn (fun a w hc hs _ => by
    subst hp
    simp [execOp, hc.ev hx, run_loadAt_scalar (P := P) ht (hQ.cell hs hΦ hv)]) h
theorem WO.loadQY {t : TypeId} {x : Operand} {e b c p k : Nat} {xs : List X} {ψ : List Chunk} {cs : List Value} {v : Value} (gi fo : Nat) (hQ : QAt sz R F1 e b c xs ψ k cs) (hΦ : Φ0[gi]? = some ψ)
    (ho : ops[i]? = some ⟨some d, .load t x, ty, pos, af, g⟩) (hg : gOk ops E g = some true) (hn : Nat.blt d n = true) (hx : ev E x = some (.pointer (some ⟨b, p, none⟩))) (hp : p = k * sz + fo) (ht : scalarB P t = true) (hv : cs[fo]? = some v)
    (h : WO P ops Q (Sat F0 Φ0) rest n ((d, v) :: E) F Φ) : WO P ops Q (Sat F0 Φ0) ((i, true) :: rest) n E F Φ :=
  WO.yield ho rfl hg hn (fun a hc w hs => by
    subst hp
    simp [execOp, hc.ev hx, run_loadAt_scalar (P := P) ht (hQ.cell hs hΦ hv)]) h
theorem WO.loadQA {t : TypeId} {x : Operand} {e b c p k : Nat} {xs : List X} {ψ : List Chunk} {cs vs : List Value} (gi fo m : Nat) (hQ : QAt sz R F1 e b c xs ψ k cs) (hΦ : Φ[gi]? = some ψ)
    (ho : ops[i]? = some ⟨some d, .load t x, ty, pos, af, g⟩) (hg : gOk ops E g = some true) (hn : Nat.blt d n = true) (hx : ev E x = some (.pointer (some ⟨b, p, none⟩))) (hp : p = k * sz + fo) (ht : aggB P t m = true) (hv : (cs.drop fo).take m = vs) (hl : vs.length = m)
    (h : WO P ops Q S rest n ((d, .agg vs.toArray) :: E) F Φ) : WO P ops Q S ((i, false) :: rest) n E F Φ :=
  WO.val ho rfl hg hn (fun a w hc hs _ => by
    subst hp
    have := run_loadAt_agg (P := P) ht hl (b := b) (o := k * sz + fo) (w := w) (fun j v hj => by rw [Nat.add_assoc]; exact hQ.cell hs hΦ (part_cells (hv ▸ hj)))
    simp [execOp, hc.ev hx, this]) h
theorem WO.loadQAY {t : TypeId} {x : Operand} {e b c p k : Nat} {xs : List X} {ψ : List Chunk} {cs vs : List Value} (gi fo m : Nat) (hQ : QAt sz R F1 e b c xs ψ k cs) (hΦ : Φ0[gi]? = some ψ)
    (ho : ops[i]? = some ⟨some d, .load t x, ty, pos, af, g⟩) (hg : gOk ops E g = some true) (hn : Nat.blt d n = true) (hx : ev E x = some (.pointer (some ⟨b, p, none⟩))) (hp : p = k * sz + fo) (ht : aggB P t m = true) (hv : (cs.drop fo).take m = vs) (hl : vs.length = m)
    (h : WO P ops Q (Sat F0 Φ0) rest n ((d, .agg vs.toArray) :: E) F Φ) : WO P ops Q (Sat F0 Φ0) ((i, true) :: rest) n E F Φ :=
  WO.yield ho rfl hg hn (fun a hc w hs => by
    subst hp
    have := run_loadAt_agg (P := P) ht hl (b := b) (o := k * sz + fo) (w := w) (fun j v hj => by rw [Nat.add_assoc]; exact hQ.cell hs hΦ (part_cells (hv ▸ hj)))
    simp [execOp, hc.ev hx, this]) h
theorem set_mid {A cs B : List Value} {o : Nat} {v : Value} (ho : o < cs.length) : (A ++ cs ++ B).set (A.length + o) v = A ++ cs.set o v ++ B := by
  rw [List.append_assoc, List.set_append_right _ _ (by omega), Nat.add_sub_cancel_left, List.set_append_left _ _ ho, List.append_assoc]
theorem WO.storeQ {t : TypeId} {x y : Operand} {e b c p k : Nat} {xs : List X} {ψ : List Chunk} {cs : List Value} {v : Value} (gi fo : Nat) (x' : X) (hQ : QAt sz R F1 e b c xs ψ k cs) (hΦ : Φ[gi]? = some ψ)
    (ho : ops[i]? = some ⟨none, .store t x y, ty, pos, af, g⟩) (hg : gOk ops E g = some true) (hx : ev E x = some (.pointer (some ⟨b, p, none⟩))) (hp : p = k * sz + fo) (hy : ev E y = some v) (hsz : sizeB P t 1 = true)
    (hv : v.oneCell' = true) (hfo : Nat.blt fo cs.length = true) (hR : R F1 (cs.set fo v) x') (hone : (cs.set fo v).all Value.oneCell' = true)
    (hS : ∀ ψ' w, Sat F (Φ.set gi ψ') w → S w)
    (h : ∀ ψ', OwnL sz R F1 e (some ⟨b, 0, none⟩) c (xs.set k x') ψ' → QAt sz R F1 e b c (xs.set k x') ψ' k (cs.set fo v) → WO P ops Q S rest n E F (Φ.set gi ψ')) : WO P ops Q S ((i, false) :: rest) n E F Φ := by
  obtain ⟨A, B, rfl, h2, h3, h4⟩ := hQ.parts
  have hfo' : fo < cs.length := by simpa [Nat.blt_eq] using hfo
  subst hp
  have hu : (A ++ cs ++ B)[k * sz + fo]? = some cs[fo] := by
    rw [← h2, List.append_assoc, List.getElem?_append_right (by omega), Nat.add_sub_cancel_left, List.getElem?_append_left hfo', List.getElem?_eq_getElem hfo']
  refine WO.store gi ho hg hx hy hsz hv hΦ hu (fun w hs => hS _ w hs) ?_
  have e1 : (A ++ cs ++ B).set (k * sz + fo) v = A ++ cs.set fo v ++ B := by rw [← h2]; exact set_mid hfo'
  rw [e1]
  have h5 := h4 _ _ (by simpa using h3) hR hone
  exact h _ h5.1 h5.2
theorem splice_mid {A cs B vs : List Value} {o : Nat} (ho : o + vs.length ≤ cs.length) : splice (A ++ cs ++ B) (A.length + o) vs = A ++ splice cs o vs ++ B := by
  unfold splice
  have e1 : (A ++ cs ++ B).take (A.length + o) = A ++ cs.take o := by
    rw [List.append_assoc, List.take_append, List.take_of_length_le (by omega), Nat.add_sub_cancel_left, List.take_append_of_le_length (by omega)]
  have e2 : (A ++ cs ++ B).drop (A.length + o + vs.length) = cs.drop (o + vs.length) ++ B := by
    rw [List.append_assoc, List.drop_append, List.drop_eq_nil_of_le (by omega), List.nil_append, Nat.add_assoc, Nat.add_sub_cancel_left, List.drop_append_of_le_length (by omega)]
  rw [e1, e2]; simp
theorem WO.storeQA {t : TypeId} {x y : Operand} {e b c p k : Nat} {xs : List X} {ψ : List Chunk} {cs vs : List Value} (gi fo m : Nat) (x' : X) (hQ : QAt sz R F1 e b c xs ψ k cs) (hΦ : Φ[gi]? = some ψ)
    (ho : ops[i]? = some ⟨none, .store t x y, ty, pos, af, g⟩) (hg : gOk ops E g = some true) (hx : ev E x = some (.pointer (some ⟨b, p, none⟩))) (hp : p = k * sz + fo) (hy : ev E y = some (.agg vs.toArray)) (hsz : sizeB P t m = true) (hl : vs.length = m)
    (hv : vs.all Value.oneCell' = true) (hfo : (decide (fo + m ≤ cs.length)) = true) (hR : R F1 (splice cs fo vs) x') (hone : (splice cs fo vs).all Value.oneCell' = true)
    (hS : ∀ ψ' w, Sat F (Φ.set gi ψ') w → S w)
    (h : ∀ ψ', OwnL sz R F1 e (some ⟨b, 0, none⟩) c (xs.set k x') ψ' → QAt sz R F1 e b c (xs.set k x') ψ' k (splice cs fo vs) → WO P ops Q S rest n E F (Φ.set gi ψ')) : WO P ops Q S ((i, false) :: rest) n E F Φ := by
  obtain ⟨A, B, rfl, h2, h3, h4⟩ := hQ.parts
  have hfo' : fo + vs.length ≤ cs.length := by rw [hl]; exact of_decide_eq_true hfo
  subst hp
  have hsl : (splice cs fo vs).length = cs.length := by
    unfold splice; simp only [List.length_append, List.length_take, List.length_drop]; omega
  refine WO.storeA gi m ho hg hx hy hsz hl hv hΦ (by
    refine decide_eq_true ?_
    simp only [List.length_append, h2]; omega) (fun w hs => hS _ w hs) ?_
  have e1 : splice (A ++ cs ++ B) (k * sz + fo) vs = A ++ splice cs fo vs ++ B := by rw [← h2]; exact splice_mid hfo'
  rw [e1]
  have h5 := h4 _ _ (by rw [hsl, h3]) hR hone
  exact h _ h5.1 h5.2

/-- A row's cells, written otherwise. -/
theorem WO.recell {l} (gi : Nat) {b e : Nat} {cs : List Value} (cs' : List Value) (hΦ : Φ[gi]? = some [(b, row cs e)]) (he : cs = cs') (h : WO P ops Q S l n E F (Φ.set gi [(b, row cs' e)])) : WO P ops Q S l n E F Φ := by
  subst he
  have hlt : gi < Φ.length := (List.getElem?_eq_some_iff.1 hΦ).1
  have hget : Φ[gi] = [(b, row cs e)] := by simpa [List.getElem?_eq_getElem hlt] using hΦ
  have : Φ.set gi [(b, row cs e)] = Φ := by conv => rhs; rw [← List.set_getElem_self hlt, hget]
  rw [this] at h; exact h

/-! ### Parts of an own list -/
theorem OwnL.take {e : TypeId} {a : Option Addr} {c : Nat} {xs : List X} {ψ} (h : OwnL sz R F e a c xs ψ) (k : Nat) : OwnL sz R F e a c (xs.take k) ψ := by
  refine ⟨by have := h.1; simp only [List.length_take]; omega, h.2.imp id ?_⟩
  rintro ⟨b, gs, sp, h1, h2, h3, h4⟩
  refine ⟨b, gs.take k, (gs.drop k).flatten ++ sp, h1, ?_, h3.take k, ?_⟩
  · rw [h2, ← List.append_assoc, ← List.flatten_append, List.take_append_drop]
  · rw [← List.append_assoc, ← List.flatten_append, List.take_append_drop]; exact h4
/-- The front of an own list: it is own. -/
theorem WO.sliceTo {t e : TypeId} {x : Operand} {hi : Operand} {kk : IntKind} {a : Option Addr} {len c : Nat} {xs ys : List X} {k : Int} {ψ : List Chunk} (hO : OwnL sz R F1 e a c xs ψ) (hv : subL xs 0 k = some ys)
    (ho : ops[i]? = some ⟨some d, .slice t x none (some hi) none, ty, pos, af, g⟩) (hg : gOk ops E g = some true) (hn : Nat.blt d n = true) (hx : ev E x = some (.slice a len c)) (hlen : len = xs.length) (h2 : ev E hi = some (.int kk k))
    (ht : P.underlying t = some (.slice e)) (hsz : sizeB P e sz = true)
    (h : ∀ a', OwnL sz R F1 e a' c ys ψ → WO P ops Q S rest n ((d, .slice a' ys.length c) :: E) F Φ) : WO P ops Q S ((i, true) :: rest) n E F Φ := by
  unfold subL at hv
  split at hv
  · rename_i hb
    cases hv
    subst hlen
    have hc0 := hO.1
    have hO' : OwnL sz R F1 e (if c = 0 then a else a.map (·.add 0)) c ((xs.take k.toNat).drop (Int.toNat 0)) ψ := by
      have e1 : (if c = 0 then a else a.map (·.add 0)) = a ∨ c = 0 := by
        by_cases hc : c = 0
        · exact .inr hc
        · left
          rcases hO.2 with ⟨h0, _⟩ | ⟨b, gs, sp, h1, _⟩
          · exact absurd h0 hc
          · rw [if_neg hc, h1]; simp [addr_add]
      have h3 := hO.take k.toNat
      rcases e1 with e1 | e1
      · rw [e1]; simpa using h3
      · rw [if_pos e1]; simpa using h3
    refine WO.yield ho rfl hg hn (fun a' hc w _ => ?_) (h _ hO')
    have hrun := run_sliceAt (P := P) (sz := sz) ht hsz (a := a) (len := xs.length) (cap := c) (lo := none) (hi := some (.int kk k)) (l := 0) (k := k.toNat)
      (.inl ⟨rfl, rfl⟩) (.inr ⟨kk, by congr 2; omega⟩) (by omega) (by omega) hc0 w
    have hyl : ((xs.take k.toNat).drop (Int.toNat 0)).length = k.toNat - 0 := by simp only [List.length_drop, List.length_take]; omega
    rw [hyl]
    simp [execOp, hc.ev hx, hc.ev h2] at hrun ⊢
    simp [hrun]
  · cases hv
/-- Behind the front: the rest of an own list. -/
def TailL (sz : Nat) (a : Option Addr) (a' : Option Addr) (l m : Nat) : Prop := m = 0 ∨ ∃ b, a = some ⟨b, 0, none⟩ ∧ a' = some ⟨b, l * sz, none⟩
theorem WO.sliceTail {t e : TypeId} {x lo : Operand} {kk : IntKind} {a : Option Addr} {len c : Nat} {xs : List X} {l : Int} {ψ : List Chunk} (hO : OwnL sz R F1 e a c xs ψ) (hv : 0 ≤ l ∧ l ≤ xs.length)
    (ho : ops[i]? = some ⟨some d, .slice t x (some lo) none none, ty, pos, af, g⟩) (hg : gOk ops E g = some true) (hn : Nat.blt d n = true) (hx : ev E x = some (.slice a len c)) (hlen : len = xs.length) (h2 : ev E lo = some (.int kk l))
    (ht : P.underlying t = some (.slice e)) (hsz : sizeB P e sz = true)
    (h : ∀ a' c', TailL sz a a' l.toNat (xs.length - l.toNat) → WO P ops Q S rest n ((d, .slice a' (xs.length - l.toNat) c') :: E) F Φ) : WO P ops Q S ((i, true) :: rest) n E F Φ := by
  subst hlen
  have hc0 := hO.1
  have hT : TailL sz a (if c = l.toNat then a else a.map (·.add (l.toNat * sz))) l.toNat (xs.length - l.toNat) := by
    by_cases hc : c = l.toNat
    · left; omega
    · rw [if_neg hc]
      rcases hO.2 with ⟨h0, _⟩ | ⟨b, gs, sp, h1, _⟩
      · left; omega
      · right; exact ⟨b, h1, by rw [h1]; simp [addr_add]⟩
  refine WO.yield ho rfl hg hn (fun a' hc w _ => ?_) (h _ (c - l.toNat) hT)
  have hrun := run_sliceAt (P := P) (sz := sz) ht hsz (a := a) (len := xs.length) (cap := c) (lo := some (.int kk l)) (hi := none) (l := l.toNat) (k := xs.length)
    (.inr ⟨kk, by congr 2; omega⟩) (.inl ⟨rfl, rfl⟩) (by omega) (Nat.le_refl _) hc0 w
  simp [execOp, hc.ev hx, hc.ev h2] at hrun ⊢
  simp [hrun]
theorem getElem?_reps (zs : List Value) : ∀ (m i : Nat), ((List.replicate m zs).flatten)[i]? = if i < m * zs.length then zs[i % zs.length]? else none
  | 0, i => by simp
  | m + 1, i => by
    rw [List.replicate_succ, List.flatten_cons, List.getElem?_append]
    by_cases h : i < zs.length
    · rw [if_pos h, Nat.mod_eq_of_lt h, if_pos (by rw [Nat.succ_mul]; omega)]
    · rw [if_neg h, getElem?_reps zs m (i - zs.length)]
      have e : (i - zs.length) % zs.length = i % zs.length := by
        conv => rhs; rw [show i = (i - zs.length) + zs.length by omega, Nat.add_mod_right]
      rw [e]
      have : (i - zs.length < m * zs.length) ↔ (i < (m + 1) * zs.length) := by rw [Nat.succ_mul]; omega
      simp only [this]
theorem zeroCells_list (z : Array Value) (m : Nat) (hz : 0 < z.size) : (Builtin.zeroCells z m).toList = (List.replicate m z.toList).flatten := by
  apply List.ext_getElem?
  intro i
  rw [getElem?_reps]
  have hm : i % z.size < z.size := Nat.mod_lt _ hz
  by_cases h : i < m * z.size
  · simp [Builtin.zeroCells, h, hm]
  · simp [Builtin.zeroCells, h]
/-- The rest is cleared. -/
theorem WO.clearTail {t e : TypeId} {x : Operand} {a a' : Option Addr} {l c c' : Nat} {xs : List X} {ψ : List Chunk} {z : Value} {zs : List Value} {z' : X} (gi : Nat) (hO : OwnL sz R F1 e a c xs ψ) (hT : TailL sz a a' l (xs.length - l)) (hl : l ≤ xs.length) (hΦ : Φ[gi]? = some ψ)
    (hz : zeroB P e z) (hzs : z.cells = zs.toArray) (hz0 : zs.length = sz) (hsz0 : Nat.blt 0 sz = true) (hzR : R F1 zs z') (hone : zs.all Value.oneCell' = true)
    (ho : ops[i]? = some ⟨none, .call ⟨.builtin .clear, #[x], #[t]⟩, ty, pos, af, g⟩) (hg : gOk ops E g = some true) (hx : ev E x = some (.slice a' (xs.length - l) c')) (ht : P.underlying t = some (.slice e))
    (hS : ∀ ψ' w, Sat F (Φ.set gi ψ') w → S w) (h : ∀ ψ', OwnL sz R F1 e a c (xs.take l ++ List.replicate (xs.length - l) z') ψ' → WO P ops Q S rest n E F (Φ.set gi ψ')) : WO P ops Q S ((i, false) :: rest) n E F Φ := by
  have hszp : 0 < sz := by simpa [Nat.blt_eq] using hsz0
  refine WO.act ho hg fun act w hc hs _ => ?_
  unfold Oper.wp
  obtain ⟨cs, hbr⟩ := run_builtin (P := P) (d := none) (ty := ty) (pos := pos) (af := af) (g := g) .clear [x] #[t] act [.slice a' (xs.length - l) c'] (by simp [hc.ev hx]) w
  rw [hbr]
  by_cases hm : xs.length - l = 0
  · have hxl : xs.take l ++ List.replicate (xs.length - l) z' = xs := by rw [hm, List.take_of_length_le (by omega)]; simp
    have hlt : gi < Φ.length := (List.getElem?_eq_some_iff.1 hΦ).1
    have hset : Φ.set gi ψ = Φ := by conv => rhs; rw [← List.set_getElem_self hlt]
                                     congr 1
                                     simpa [List.getElem?_eq_getElem hlt] using hΦ.symm
    have h2 := h ψ (by rw [hxl]; exact hO)
    rw [hset] at h2
    have hs2 := hS ψ w (by rw [hset]; exact hs)
    have hr : (Builtin.clear_ #[t] ty #[.slice a' (xs.length - l) c']).run P w = .ok (.tuple #[]) w := by
      rw [hm]; cases a' <;> simp [Builtin.clear_, run_underlying ht]
    simp only [builtin, hr, Result.andThen_ok, Sem.run_bind, Sem.run_pure]
    exact ⟨hs2, h2 _ _ hc hs hs2⟩
  · rcases hT with hT | ⟨b, rfl, rfl⟩
    · exact absurd hT hm
    rcases hO.2 with ⟨h0, _⟩ | ⟨b', gs, sp, h1, rfl, h3, h4⟩
    · have := hO.1; omega
    cases h1
    have hm' : (b, row (gs.flatten ++ sp) e) ∈ Φ.flatten := List.mem_flatten.2 ⟨_, List.mem_of_getElem? hΦ, by simp⟩
    have hb := hs.mem hm'
    have hfl := h3.flat
    have hzl : (Builtin.zeroCells z.cells (xs.length - l)).toList = (List.replicate (xs.length - l) zs).flatten := by
      rw [hzs, zeroCells_list _ _ (by simpa [hz0] using hszp)]
    have hzlen : (List.replicate (xs.length - l) zs).flatten.length = (xs.length - l) * sz := by simp [hz0]
    have hfit : l * sz + (List.replicate (xs.length - l) zs).flatten.length = gs.flatten.length := by
      rw [hzlen, hfl, ← Nat.add_mul]; congr 1; omega
    have hst := run_storeCells_at P b (l * sz) e (List.replicate (xs.length - l) zs).flatten 0 (gs.flatten ++ sp).toArray w hb (by simp only [Nat.add_zero]; rw [List.size_toArray, List.length_append]; omega) (fun v hv => by
      obtain ⟨q, hq, hv⟩ := List.mem_flatten.1 hv
      rw [List.eq_of_mem_replicate hq] at hv
      exact List.all_eq_true.1 hone v hv)
    simp only [Nat.add_zero] at hst
    have hgl : (gs.take l).flatten.length = l * sz := by
      rw [(h3.take l).flat, List.length_take, Nat.min_eq_left hl]
    have hrow : (gs.flatten ++ sp).toArray.toList.take (l * sz) ++ (List.replicate (xs.length - l) zs).flatten ++ (gs.flatten ++ sp).toArray.toList.drop (l * sz + (List.replicate (xs.length - l) zs).flatten.length) = (gs.take l ++ List.replicate (xs.length - l) zs).flatten ++ sp := by
      rw [hfit]
      have e1 : gs.flatten = (gs.take l).flatten ++ (gs.drop l).flatten := by rw [← List.flatten_append, List.take_append_drop]
      have e2 : (gs.flatten ++ sp).take (l * sz) = (gs.take l).flatten := by
        rw [e1, List.append_assoc, ← hgl, List.take_left']
        rfl
      simp only [List.flatten_append]
      rw [e2, List.drop_left]
    rw [hrow] at hst
    have hr : (Builtin.clear_ #[t] ty #[.slice (some ⟨b, l * sz, none⟩) (xs.length - l) c']).run P w = .ok (.tuple #[]) (w.setRow b ((gs.take l ++ List.replicate (xs.length - l) zs).flatten ++ sp).toArray) := by
      obtain ⟨q, hq⟩ : ∃ q, xs.length - l = q + 1 := ⟨xs.length - l - 1, by omega⟩
      have hzr := run_zeroValue hz w
      rw [← hzl] at hst
      rw [hq] at hst ⊢
      simp [Builtin.clear_, run_underlying ht, hzr, hst]
    have hs' : Sat F (Φ.set gi [(b, row ((gs.take l ++ List.replicate (xs.length - l) zs).flatten ++ sp) e)]) (w.setRow b ((gs.take l ++ List.replicate (xs.length - l) zs).flatten ++ sp).toArray) := by
      refine hs.put hΦ ?_ (fun k hk => setRow_other _ _ _ _ hk) (by simp) rfl rfl rfl
      rw [setRow_heap w b (gs.flatten ++ sp).toArray _ e _ hb]
    have hO' : OwnL sz R F1 e (some ⟨b, 0, none⟩) c (xs.take l ++ List.replicate (xs.length - l) z') [(b, row ((gs.take l ++ List.replicate (xs.length - l) zs).flatten ++ sp) e)] := by
      refine ⟨by have := hO.1; simp only [List.length_append, List.length_take, List.length_replicate]; omega, .inr ⟨b, _, sp, rfl, rfl, (h3.take l).append ?_, ?_⟩⟩
      · refine ⟨by simp, fun j cs x k1 k2 => ?_⟩
        rw [List.getElem?_replicate] at k1 k2
        split at k1
        · rename_i hj
          rw [if_pos hj] at k2
          cases k1; cases k2
          exact ⟨hz0, hzR, hone⟩
        · cases k1
      · rw [← h4]
        simp only [List.length_append, List.flatten_append]
        rw [hgl, hfit]
    simp only [builtin, hr, Result.andThen_ok, Sem.run_bind, Sem.run_pure]
    exact ⟨hS _ _ hs', h _ hO' _ _ hc hs' (hS _ _ hs')⟩
end
end Go.Pel

/- Rules on slices; the frame of a function's proof. -/
import Derived.Test.YtmkegcgnjaldpaaPelRows
namespace Go.Pel
open Go.RowKit

def RInt (k : IntKind) : Mem → List Value → Int → Prop := fun _ cs x => cs = [.int k x]
def RBool : Mem → List Value → Bool → Prop := fun _ cs x => cs = [.bool x]
/-- A cell that holds a slice that is read. -/
def RSl {X : Type} (sz : Nat) (R : Mem → List Value → X → Prop) : Mem → List Value → List X → Prop := fun F cs xs => ∃ a c, cs = [.slice a xs.length c] ∧ RdL sz R F a c xs
theorem mono_int (k : IntKind) : Mono (RInt k) := fun _ _ _ _ _ h => h
theorem mono_bool : Mono RBool := fun _ _ _ _ _ h => h
theorem mono_sl {X : Type} {sz : Nat} {R : Mem → List Value → X → Prop} (hR : Mono R) : Mono (RSl sz R) := fun _ _ _ _ h ⟨a, c, h1, h2⟩ => ⟨a, c, h1, h2.mono hR h⟩

def sliceB (P : Program) (t e : TypeId) (sz : Nat) : Prop := P.underlying t = some (.slice e) ∧ sizeB P e sz = true

section
variable {P : Program} {ops : Array Oper} {Q : Post} {S : World → Prop} {n : Nat} {E : Env} {F F0 F1 : Mem} {Φ Φ0 : List (List Chunk)}
variable {i d ty : Nat} {pos : String} {af : Array Edge} {g : Option (Nat × Bool)} {rest : List (Nat × Bool)} {X : Type} {sz : Nat} {R : Mem → List Value → X → Prop}

theorem run_indexAt {t e : TypeId} (ht : P.underlying t = some (.slice e)) (hsz : sizeB P e sz = true) {b o l c : Nat} {k : IntKind} {q : Int} (h0 : 0 ≤ q) (h1 : q < l) (w : World) :
    (Instr.indexAt t (.slice (some ⟨b, o, none⟩) l c) (.int k q)).run P w = .ok (.pointer (some ⟨b, o + q.toNat * sz, none⟩)) w := by
  simp [Instr.indexAt, run_underlying ht, asIntOf, h0, h1, run_sizeOf hsz, addr_add]
/-- A place of a slice that is read. -/
theorem WO.indexR {t e : TypeId} {x y : Operand} {a : Option Addr} {l c : Nat} {k : IntKind} {q : Int} {xs : List X} {v : X} (hR : RdL sz R F1 a c xs) (hv : getI xs q = some v)
    (ho : ops[i]? = some ⟨some d, .indexAddr t x y, ty, pos, af, g⟩) (hg : gOk ops E g = some true) (hn : Nat.blt d n = true) (hx : ev E x = some (.slice a l c)) (hl : l = xs.length) (hy : ev E y = some (.int k q))
    (ht : P.underlying t = some (.slice e)) (hsz : sizeB P e sz = true)
    (h : ∀ b o cs, Cells F1 b o cs → R F1 cs v → WO P ops Q S rest n ((d, .pointer (some ⟨b, o, none⟩)) :: E) F Φ) : WO P ops Q S ((i, true) :: rest) n E F Φ := by
  obtain ⟨h0, h1, h2⟩ := getI_some hv
  obtain ⟨b, o, cs, rfl, h4, h5, _⟩ := hR.get h2
  subst hl
  exact WO.yield ho rfl hg hn (fun a hc w _ => by simp [execOp, hc.ev hx, hc.ev hy, run_indexAt ht hsz h0 h1]) (h b _ cs h4 h5)

/-- A place of an own slice of whole numbers: it is read, or written. -/
theorem OwnL.at {e : TypeId} {a : Option Addr} {c : Nat} {xs : List X} {ψ} (h : OwnL sz R F e a c xs ψ) {k : Nat} {v : X} (hx : xs[k]? = some v) :
    ∃ b gs sp, a = some ⟨b, 0, none⟩ ∧ ψ = [(b, row (gs.flatten ++ sp) e)] ∧ Rs sz R F gs xs ∧ (gs.flatten ++ sp).length = c * sz := by
  rcases h.2 with ⟨h0, _⟩ | ⟨b, gs, sp, h1, h2, h3, h4⟩
  · have := h.1
    have := (List.getElem?_eq_some_iff.1 hx).1
    omega
  · exact ⟨b, gs, sp, h1, h2, h3, h4⟩

theorem Rs.cellInt {F : Mem} {k : IntKind} {gs : List (List Value)} {xs : List Int} (h : Rs 1 (RInt k) F gs xs) : gs.flatten = xs.map (Value.int k) := by
  obtain ⟨h1, h2⟩ := h
  induction gs generalizing xs with
  | nil => cases xs with | nil => rfl | cons x xs => simp at h1
  | cons c gs ih =>
    cases xs with
    | nil => simp at h1
    | cons x xs =>
      have h0 := (h2 0 c x rfl rfl).2.1
      unfold RInt at h0
      subst h0
      simp only [List.flatten_cons, List.map_cons, List.cons_append, List.nil_append]
      rw [ih (by simpa using h1) (fun j cs y k1 k2 => h2 (j + 1) cs y (by simpa using k1) (by simpa using k2))]
theorem Rs.ofInts {F : Mem} {k : IntKind} (xs : List Int) : Rs 1 (RInt k) F (xs.map fun x => [Value.int k x]) xs :=
  ⟨by simp, fun j cs x h1 h2 => by
    rw [List.getElem?_map, h2] at h1
    simp at h1
    subst h1
    exact ⟨rfl, rfl, rfl⟩⟩
theorem flatten_ints (k : IntKind) (xs : List Int) : (xs.map fun x => [Value.int k x]).flatten = xs.map (Value.int k) := by
  induction xs with
  | nil => rfl
  | cons x xs ih => simp [ih]

/-- A place of an own slice: the address, and what it is good for. -/
theorem WO.indexO {t e : TypeId} {x y : Operand} {a : Option Addr} {l c : Nat} {k : IntKind} {q : Int} {xs : List X} {v : X} {ψ : List Chunk} (hO : OwnL sz R F1 e a c xs ψ) (hv : getI xs q = some v)
    (ho : ops[i]? = some ⟨some d, .indexAddr t x y, ty, pos, af, g⟩) (hg : gOk ops E g = some true) (hn : Nat.blt d n = true) (hx : ev E x = some (.slice a l c)) (hl : l = xs.length) (hy : ev E y = some (.int k q))
    (ht : P.underlying t = some (.slice e)) (hsz : sizeB P e sz = true)
    (h : ∀ b, a = some ⟨b, 0, none⟩ → WO P ops Q S rest n ((d, .pointer (some ⟨b, q.toNat * sz, none⟩)) :: E) F Φ) : WO P ops Q S ((i, true) :: rest) n E F Φ := by
  obtain ⟨h0, h1, h2⟩ := getI_some hv
  obtain ⟨b, gs, sp, rfl, rfl, h3, h4⟩ := hO.at h2
  subst hl
  exact WO.yield ho rfl hg hn (fun a hc w _ => by simp [execOp, hc.ev hx, hc.ev hy, run_indexAt ht hsz h0 h1]) (h b rfl)

theorem OwnL.cellInt {k : IntKind} {e b c : Nat} {xs : List Int} {ψ : List Chunk} (hO : OwnL 1 (RInt k) F e (some ⟨b, 0, none⟩) c xs ψ) :
    xs ≠ [] → ∃ sp, ψ = [(b, row (xs.map (Value.int k) ++ sp) e)] ∧ (xs.map (Value.int k) ++ sp).length = c := by
  intro hne
  rcases hO.2 with ⟨h, _⟩ | ⟨b', gs, sp, h1, h2, h3, h4⟩
  · have h0 := hO.1
    exact absurd (List.eq_nil_of_length_eq_zero (by omega)) hne
  · cases h1
    rw [h3.cellInt] at h2 h4
    exact ⟨sp, h2, by rw [h4, Nat.mul_one]⟩

theorem WO.loadO {t : TypeId} {x : Operand} {k : IntKind} {e b c : Nat} {q v : Int} {xs : List Int} {ψ : List Chunk} (gi : Nat) (hO : OwnL 1 (RInt k) F1 e (some ⟨b, 0, none⟩) c xs ψ) (hv : getI xs q = some v) (hΦ : Φ[gi]? = some ψ)
    (ho : ops[i]? = some ⟨some d, .load t x, ty, pos, af, g⟩) (hg : gOk ops E g = some true) (hn : Nat.blt d n = true) (hx : ev E x = some (.pointer (some ⟨b, q.toNat * 1, none⟩))) (ht : scalarB P t = true)
    (h : WO P ops Q S rest n ((d, .int k v) :: E) F Φ) : WO P ops Q S ((i, false) :: rest) n E F Φ := by
  obtain ⟨h0, h1, h2⟩ := getI_some hv
  obtain ⟨sp, rfl, _⟩ := hO.cellInt (fun e => by rw [e] at h2; simp at h2)
  refine WO.load gi ho hg hn hx ht hΦ ?_ h
  have hlt := (List.getElem?_eq_some_iff.1 h2).1
  rw [Nat.mul_one, List.getElem?_append_left (by simpa using hlt), List.getElem?_map, h2]
  rfl
theorem WO.loadOY {t : TypeId} {x : Operand} {k : IntKind} {e b c : Nat} {q v : Int} {xs : List Int} {ψ : List Chunk} {F' : Mem} (gi : Nat) (hO : OwnL 1 (RInt k) F' e (some ⟨b, 0, none⟩) c xs ψ) (hv : getI xs q = some v) (hΦ : Φ0[gi]? = some ψ)
    (ho : ops[i]? = some ⟨some d, .load t x, ty, pos, af, g⟩) (hg : gOk ops E g = some true) (hn : Nat.blt d n = true) (hx : ev E x = some (.pointer (some ⟨b, q.toNat * 1, none⟩))) (ht : scalarB P t = true)
    (h : WO P ops Q (Sat F0 Φ0) rest n ((d, .int k v) :: E) F Φ) : WO P ops Q (Sat F0 Φ0) ((i, true) :: rest) n E F Φ := by
  obtain ⟨h0, h1, h2⟩ := getI_some hv
  obtain ⟨sp, rfl, _⟩ := hO.cellInt (fun e => by rw [e] at h2; simp at h2)
  refine WO.loadY gi ho hg hn hx ht hΦ ?_ h
  have hlt := (List.getElem?_eq_some_iff.1 h2).1
  rw [Nat.mul_one, List.getElem?_append_left (by simpa using hlt), List.getElem?_map, h2]
  rfl
theorem WO.storeO {t : TypeId} {x y : Operand} {k : IntKind} {e b c : Nat} {q v u : Int} {xs : List Int} {ψ : List Chunk} (gi : Nat) (hO : OwnL 1 (RInt k) F1 e (some ⟨b, 0, none⟩) c xs ψ) (hv : getI xs q = some u) (hΦ : Φ[gi]? = some ψ)
    (ho : ops[i]? = some ⟨none, .store t x y, ty, pos, af, g⟩) (hg : gOk ops E g = some true) (hx : ev E x = some (.pointer (some ⟨b, q.toNat * 1, none⟩))) (hy : ev E y = some (.int k v)) (hsz : sizeB P t 1 = true)
    (hS : ∀ ψ' w, Sat F (Φ.set gi ψ') w → S w) (h : ∀ ψ', OwnL 1 (RInt k) F1 e (some ⟨b, 0, none⟩) c (xs.set q.toNat v) ψ' → WO P ops Q S rest n E F (Φ.set gi ψ')) : WO P ops Q S ((i, false) :: rest) n E F Φ := by
  obtain ⟨h0, h1, h2⟩ := getI_some hv
  obtain ⟨sp, rfl, hlen⟩ := hO.cellInt (fun e => by rw [e] at h2; simp at h2)
  have hlt := (List.getElem?_eq_some_iff.1 h2).1
  have hset : (xs.map (Value.int k) ++ sp).set (q.toNat * 1) (.int k v) = (xs.set q.toNat v).map (Value.int k) ++ sp := by
    rw [Nat.mul_one, List.set_append_left _ _ (by simpa using hlt), List.map_set]
  refine WO.store gi ho hg hx hy hsz rfl hΦ (u := .int k u) ?_ (fun w hs => hS _ w hs) (by
    rw [hset]
    refine h _ ⟨by simpa using hO.1, .inr ⟨b, (xs.set q.toNat v).map fun x => [Value.int k x], sp, rfl, ?_, Rs.ofInts _, ?_⟩⟩
    · rw [flatten_ints]
    · rw [flatten_ints, Nat.mul_one, ← hlen]; simp)
  rw [Nat.mul_one, List.getElem?_append_left (by simpa using hlt), List.getElem?_map, h2]
  rfl

/-! ### A part of a slice -/
theorem run_sliceAt {t e : TypeId} (ht : P.underlying t = some (.slice e)) (hsz : sizeB P e sz = true) {a : Option Addr} {len cap : Nat} {lo hi : Option Value} {l k : Nat}
    (hlo : (lo = none ∧ l = 0) ∨ ∃ kk, lo = some (.int kk l)) (hhi : (hi = none ∧ k = len) ∨ ∃ kk, hi = some (.int kk k)) (hlk : l ≤ k) (hk : k ≤ len) (hc : len ≤ cap) (w : World) :
    (Instr.sliceAt t (.slice a len cap) lo hi none).run P w = .ok (.slice (if cap = l then a else a.map (·.add (l * sz))) (k - l) (cap - l)) w := by
  have hkc : k ≤ cap := by omega
  rcases hlo with ⟨rfl, rfl⟩ | ⟨k1, rfl⟩ <;> rcases hhi with ⟨rfl, rfl⟩ | ⟨k2, rfl⟩ <;>
    simp [Instr.sliceAt, run_underlying ht, Instr.slice, Instr.sliceBounds, Instr.sliceBound, asIntOf, run_sizeOf hsz, hlk, hkc]

def evo (E : Env) : Option Operand → Option (Option Value)
  | none => some none
  | some x => match ev E x with | some v => some (some v) | none => none
theorem Ctx.evo {a} (h : Ctx n E a) {x : Option Operand} {v : Option Value} (hx : evo E x = some v) : x.map a.eval = v := by
  cases x with
  | none => simp [Pel.evo] at hx; subst hx; rfl
  | some x =>
    simp only [Pel.evo] at hx
    split at hx
    · rename_i u hu; cases hx; simp [h.ev hu]
    · cases hx

/-- The part of a list. -/
def subL (xs : List X) (l k : Int) : Option (List X) := if 0 ≤ l ∧ l ≤ k ∧ k ≤ xs.length then some ((xs.take k.toNat).drop l.toNat) else none
theorem WO.slice {t e : TypeId} {x : Operand} {lo hi : Option Operand} {vlo vhi : Option Value} {a : Option Addr} {len c : Nat} {xs ys : List X} {l k : Int} (hR : RdL sz R F1 a c xs) (hv : subL xs l k = some ys)
    (ho : ops[i]? = some ⟨some d, .slice t x lo hi none, ty, pos, af, g⟩) (hg : gOk ops E g = some true) (hn : Nat.blt d n = true) (hx : ev E x = some (.slice a len c)) (hlen : len = xs.length)
    (h1 : evo E lo = some vlo) (h2 : evo E hi = some vhi) (hlo : (vlo = none ∧ l = 0) ∨ ∃ kk, vlo = some (.int kk l)) (hhi : (vhi = none ∧ k = xs.length) ∨ ∃ kk, vhi = some (.int kk k))
    (ht : P.underlying t = some (.slice e)) (hsz : sizeB P e sz = true)
    (h : ∀ a' c', RdL sz R F1 a' c' ys → WO P ops Q S rest n ((d, .slice a' ys.length c') :: E) F Φ) : WO P ops Q S ((i, true) :: rest) n E F Φ := by
  unfold subL at hv
  split at hv
  · rename_i hb
    cases hv
    subst hlen
    have hr := hR.slice (l := l.toNat) (k := k.toNat) (by omega) (by omega)
    refine WO.yield ho rfl hg hn (fun a' hc w _ => ?_) (h _ _ hr)
    have hc0 := hR.1
    have hrun := run_sliceAt (P := P) (sz := sz) ht hsz (a := a) (len := xs.length) (cap := c) (lo := vlo) (hi := vhi) (l := l.toNat) (k := k.toNat)
      (hlo.imp (fun ⟨p, q⟩ => ⟨p, by omega⟩) (fun ⟨kk, q⟩ => ⟨kk, by rw [q]; congr 2; omega⟩)) (hhi.imp (fun ⟨p, q⟩ => ⟨p, by omega⟩) (fun ⟨kk, q⟩ => ⟨kk, by rw [q]; congr 2; omega⟩)) (by omega) (by omega) hc0 w
    have hyl : ((xs.take k.toNat).drop l.toNat).length = k.toNat - l.toNat := by simp only [List.length_drop, List.length_take]; omega
    rw [hyl]
    simp [execOp, hc.ev hx, hc.evo h1, hc.evo h2, hrun]
  · cases hv

/-! ### Append -/
/-- Where what is appended comes from. -/
def SrcL (P : Program) (sz : Nat) (R : Mem → List Value → X → Prop) (F1 F : Mem) (Φ : List (List Chunk)) (t : TypeId) (v : Value) (ys : List X) : Prop :=
  ∃ gs, Rs sz R F1 gs ys ∧ ∀ w, Sat F Φ w → Src P sz t v ys.length gs.flatten w
theorem SrcL.ofRd {t e : TypeId} (ht : P.underlying t = some (.slice e)) {a : Option Addr} {c : Nat} {ys : List X} (h : RdL sz R F1 a c ys) (hle : F1.le F) : SrcL P sz R F1 F Φ t (.slice a ys.length c) ys := by
  rcases h.2 with rfl | ⟨b, o, gs, rfl, h2, h3⟩
  · refine ⟨[], Rs.nil, fun w _ => ?_⟩
    cases a with
    | none => exact Src.ofNil w ht c
    | some a => exact Src.ofSlice w ht a 0 c [] (by simp) (fun j u h => by simp at h) (fun u h => by cases h)
  · refine ⟨gs, h3, fun w hs => Src.ofSlice w ht _ _ c _ h3.flat (fun j u hu => ?_) h3.one'⟩
    rw [addr_add]; exact Cells.cell hs (h2.mono hle) hu
theorem SrcL.ofOwn {t e e' : TypeId} (gi : Nat) (ht : P.underlying t = some (.slice e')) {a : Option Addr} {c : Nat} {ys : List X} {ψ} (h : OwnL sz R F1 e a c ys ψ) (hΦ : Φ[gi]? = some ψ) : SrcL P sz R F1 F Φ t (.slice a ys.length c) ys := by
  rcases h.2 with ⟨rfl, rfl⟩ | ⟨b, gs, sp, rfl, rfl, h3, h4⟩
  · have h0 := h.1
    have : ys = [] := List.eq_nil_of_length_eq_zero (by omega)
    subst this
    cases a with
    | none => exact ⟨[], Rs.nil, fun w _ => Src.ofNil w ht 0⟩
    | some a => exact ⟨[], Rs.nil, fun w _ => Src.ofSlice w ht a 0 0 [] (by simp) (fun j u h => by simp at h) (fun u h => by cases h)⟩
  · refine ⟨gs, h3, fun w hs => Src.ofSlice w ht _ _ c _ h3.flat (fun j u hu => ?_) h3.one'⟩
    have hm : (b, row (gs.flatten ++ sp) e) ∈ Φ.flatten := List.mem_flatten.2 ⟨_, List.mem_of_getElem? hΦ, by simp⟩
    have hj : j < gs.flatten.length := (List.getElem?_eq_some_iff.1 hu).1
    rw [addr_add]
    exact cell_of (hs.mem hm) (by simp [List.getElem?_append_left hj, hu])
/-- Out of a row of the call's own: 'gs' parts its cells. -/
theorem SrcL.ofRow {t e e' : TypeId} (gi : Nat) (ht : P.underlying t = some (.slice e')) {b l c : Nat} {vs : List Value} {ys : List X} (gs : List (List Value)) (hΦ : Φ[gi]? = some [(b, row vs e)]) (hgs : gs.flatten = vs) (hl : l = ys.length) (h3 : Rs sz R F1 gs ys) :
    SrcL P sz R F1 F Φ t (.slice (some ⟨b, 0, none⟩) l c) ys := by
  subst hl; subst hgs
  refine ⟨gs, h3, fun w hs => Src.ofSlice w ht _ _ c _ h3.flat (fun j u hu => ?_) h3.one'⟩
  have hm : (b, row gs.flatten e) ∈ Φ.flatten := List.mem_flatten.2 ⟨_, List.mem_of_getElem? hΦ, by simp⟩
  rw [addr_add]
  exact cell_of (hs.mem hm) (by simpa using hu)

def elemB (P : Program) (e : TypeId) (sz bytes : Nat) : Bool :=
  match P.info? e with
  | some i => i.size == sz && i.bytes == bytes && Nat.blt 0 sz && Nat.blt 0 bytes && Nat.blt bytes 513 && (match i.zero with | some z => z.cells.size == sz | none => false)
  | none => false
/-- How long a slice may grow here. -/
def lim : Nat := 274877906944
def app (xs ys : List X) : Option (List X) := if xs.length + ys.length ≤ lim then some (xs ++ ys) else none

theorem run_appendO {t tx e : TypeId} {bytes : Nat} (ht : P.underlying t = some (.slice e)) (he : elemB P e sz bytes = true) (ty : TypeId) {a : Option Addr} {c : Nat} {xs ys : List X} {ψ : List Chunk} {gi : Nat} {v : Value} {w : World}
    (hO : OwnL sz R F1 e a c xs ψ) (hΦ : Φ[gi]? = some ψ) (hsrc : SrcL P sz R F1 F Φ tx v ys) (hlim : xs.length + ys.length ≤ lim) (hs : Sat F Φ w) :
    ∃ a' c' ψ' w', (Builtin.append_ #[t, tx] ty #[.slice a xs.length c, v]).run P w = .ok (.slice a' (xs ++ ys).length c') w' ∧ OwnL sz R F1 e a' c' (xs ++ ys) ψ' ∧ Sat F (Φ.set gi ψ') w' ∧ (xs.length + ys.length ≤ c → a' = a ∧ c' = c) := by
  obtain ⟨gs2, hr2, hsr⟩ := hsrc
  have hsrc := hsr w hs
  unfold elemB at he
  split at he
  case h_2 => cases he
  rename_i inf hi
  simp only [Bool.and_eq_true, beq_iff_eq, Nat.blt_eq] at he
  obtain ⟨⟨⟨⟨⟨rfl, rfl⟩, hsz0⟩, hby0⟩, hby1⟩, hzz⟩ := he
  cases hz : inf.zero with
  | none => rw [hz] at hzz; cases hzz
  | some z =>
  rw [hz] at hzz
  have hzs : z.cells.size = inf.size := by simpa using hzz
  have hlim' : xs.length + ys.length ≤ 274877906944 := hlim
  have hbytes : (xs.length + ys.length) * inf.bytes ≤ 140737488355328 := by
    refine Nat.le_trans (Nat.mul_le_mul hlim' (Nat.le_of_lt_succ hby1)) (by decide)
  have grow : ∀ (a : Option Addr) (gs : List (List Value)), c < xs.length + ys.length → Rs inf.size R F1 gs xs → (Builtin.firstCells inf.size xs.length (.slice a xs.length c)).run P w.drew = .ok gs.flatten.toArray w.drew →
      ∃ a' c' ψ' w', (Builtin.append_ #[t, tx] ty #[.slice a xs.length c, v]).run P w = .ok (.slice a' (xs ++ ys).length c') w' ∧ OwnL inf.size R F1 e a' c' (xs ++ ys) ψ' ∧ Sat F (Φ.set gi ψ') w' ∧ (xs.length + ys.length ≤ c → a' = a ∧ c' = c) := by
    intro a gs hc hrs hold
    have hrun := run_append_grow_src (P := P) w t tx ty e inf z ht hi hz a xs.length c gs.flatten hold v ys.length gs2.flatten hsrc hc (by omega) (growslice_fits hc hbytes)
    have hge := grownCap_ge w (xs.length + ys.length) c e
    generalize hcap : grownCap w (xs.length + ys.length) c e = cap at hrun hge
    have hcells : (gs.flatten ++ gs2.flatten).toArray ++ Builtin.zeroCells z.cells (cap - (xs.length + ys.length)) = ((gs ++ gs2).flatten ++ (Builtin.zeroCells z.cells (cap - (xs.length + ys.length))).toList).toArray := by
      apply Array.ext'
      simp
    rw [hcells] at hrun
    rw [List.length_append]
    refine ⟨_, _, [(w.heap.size, row ((gs ++ gs2).flatten ++ (Builtin.zeroCells z.cells (cap - (xs.length + ys.length))).toList) e)], _, hrun, ?_, ?_, fun h => absurd h (by omega)⟩
    · refine ⟨by rw [List.length_append]; exact hge, .inr ⟨_, gs ++ gs2, _, rfl, rfl, hrs.append hr2, ?_⟩⟩
      have e1 : (Builtin.zeroCells z.cells (cap - (xs.length + ys.length))).toList.length = (cap - (xs.length + ys.length)) * inf.size := by
        rw [Array.length_toList, size_zeroCells, hzs]
      rw [List.length_append, (hrs.append hr2).flat, e1, List.length_append, ← Nat.add_mul]
      congr 1
      omega
    · refine (hs.drawn (w.drawn + 1)).regroup hΦ rfl rfl rfl (by rw [World.size_alloc]; exact Nat.le_succ _) (fun k hk _ => heap_alloc_old w.drew _ hk) (fun ch hch => ?_) (by simp)
      simp only [List.mem_singleton] at hch
      subst hch
      exact ⟨heap_alloc_new w.drew _, .inr (Nat.le_refl _)⟩
  rcases hO.2 with ⟨rfl, rfl⟩ | ⟨b, gs, sp, rfl, rfl, h3, h4⟩
  · have h0 := hO.1
    have hx0 : xs = [] := List.eq_nil_of_length_eq_zero (by omega)
    subst hx0
    by_cases hy : ys = []
    · subst hy
      refine ⟨a, 0, [], w, ?_, ⟨Nat.le_refl _, .inl ⟨rfl, rfl⟩⟩, ?_, fun _ => ⟨rfl, rfl⟩⟩
      · have hlen := hsrc.len w
        have hc0 : gs2.flatten = [] := List.eq_nil_of_length_eq_zero (by rw [hr2.flat]; simp)
        have hcell := hsrc.cells
        rw [hc0] at hcell
        simp only [List.length_nil] at hcell hlen
        rcases hsrc.kind with ⟨e', hk⟩ | hk <;> cases a <;> simp [Builtin.append_, run_underlying ht, run_underlying hk, sizeOf, typeInfo, hi, hlen, hcell, storeCells]
      · have : Φ.set gi [] = Φ := by
          have hlt : gi < Φ.length := (List.getElem?_eq_some_iff.1 hΦ).1
          have hget : Φ[gi] = [] := by simpa [List.getElem?_eq_getElem hlt] using hΦ
          conv => rhs; rw [← List.set_getElem_self hlt, hget]
        rw [this]; exact hs
    · have hpos : 0 < ys.length := List.length_pos_iff.2 hy
      exact grow a [] (by simpa using hpos) Rs.nil (by cases a <;> simp [Builtin.firstCells, loadCells, loadCellsFrom])
  · have hm : (b, row (gs.flatten ++ sp) e) ∈ Φ.flatten := List.mem_flatten.2 ⟨_, List.mem_of_getElem? hΦ, by simp⟩
    have hb := hs.mem hm
    by_cases hroom : xs.length + ys.length ≤ c
    · have hfl := h3.flat
      have hfl2 := hr2.flat
      have hfit : xs.length * inf.size + gs2.flatten.length ≤ (gs.flatten ++ sp).length := by
        rw [h4, hfl2, ← Nat.add_mul]; exact Nat.mul_le_mul_right _ hroom
      have hst := run_storeCells_at P b (xs.length * inf.size) e gs2.flatten 0 (gs.flatten ++ sp).toArray w hb (by simpa using hfit) hsrc.one
      simp only [Nat.add_zero] at hst
      have hrun : (Builtin.append_ #[t, tx] ty #[.slice (some ⟨b, 0, none⟩) xs.length c, v]).run P w = .ok (.slice (some ⟨b, 0, none⟩) (xs.length + ys.length) c) (w.setRow b ((gs.flatten ++ sp).toArray.toList.take (xs.length * inf.size) ++ gs2.flatten ++ (gs.flatten ++ sp).toArray.toList.drop (xs.length * inf.size + gs2.flatten.length)).toArray) := by
        rcases hsrc.kind with ⟨e', hk⟩ | hk <;> simp [Builtin.append_, run_underlying ht, run_underlying hk, sizeOf, typeInfo, hi, hsrc.len, hroom, hsrc.cells, Addr.add_lit, hst]
      rw [List.length_append]
      have hrow : (gs.flatten ++ sp).toArray.toList.take (xs.length * inf.size) ++ gs2.flatten ++ (gs.flatten ++ sp).toArray.toList.drop (xs.length * inf.size + gs2.flatten.length) = (gs ++ gs2).flatten ++ sp.drop gs2.flatten.length := by
        rw [← hfl]
        simp [List.drop_append]
      rw [hrow] at hrun
      refine ⟨_, _, [(b, row ((gs ++ gs2).flatten ++ sp.drop gs2.flatten.length) e)], _, hrun, ⟨by rw [List.length_append]; exact hroom, .inr ⟨b, gs ++ gs2, _, rfl, rfl, h3.append hr2, ?_⟩⟩, ?_, fun _ => ⟨rfl, rfl⟩⟩
      · rw [← h4]
        simp only [List.length_append, List.flatten_append, List.length_drop]
        rw [List.length_append] at hfit
        omega
      · refine hs.put hΦ ?_ (fun k hk => setRow_other _ _ _ _ hk) (by simp) rfl rfl rfl
        rw [setRow_heap w b (gs.flatten ++ sp).toArray _ e _ hb]
    · refine grow (some ⟨b, 0, none⟩) gs (by omega) h3 ?_
      refine run_firstCells_some w.drew inf.size xs.length ⟨b, 0, none⟩ xs.length c gs.flatten h3.flat (fun j u hu => ?_)
      have hj : j < gs.flatten.length := (List.getElem?_eq_some_iff.1 hu).1
      rw [addr_add]
      have : w.cell? ⟨b, 0 + j, none⟩ = some u := cell_of hb (by simp [List.getElem?_append_left hj, hu])
      simpa using this

theorem WO.append {t tx e : TypeId} {x y : Operand} {bytes : Nat} {a : Option Addr} {l c : Nat} {xs ys zs : List X} {ψ : List Chunk} {v : Value} (gi : Nat) (hO : OwnL sz R F1 e a c xs ψ) (hΦ : Φ[gi]? = some ψ) (hsrc : SrcL P sz R F1 F Φ tx v ys) (hz : app xs ys = some zs)
    (ho : ops[i]? = some ⟨some d, .call ⟨.builtin .append, #[x, y], #[t, tx]⟩, ty, pos, af, g⟩) (hg : gOk ops E g = some true) (hn : Nat.blt d n = true) (hx : ev E x = some (.slice a l c)) (hl : l = xs.length) (hy : ev E y = some v)
    (ht : P.underlying t = some (.slice e)) (he : elemB P e sz bytes = true)
    (hS : ∀ ψ' w, Sat F (Φ.set gi ψ') w → S w) (h : ∀ a' c' ψ', OwnL sz R F1 e a' c' zs ψ' → WO P ops Q S rest n ((d, .slice a' zs.length c') :: E) F (Φ.set gi ψ')) : WO P ops Q S ((i, false) :: rest) n E F Φ := by
  unfold app at hz
  split at hz
  case isFalse => cases hz
  rename_i hlim
  cases hz
  subst hl
  refine WO.valW ho rfl hg hn fun act w hc hs _ => ?_
  obtain ⟨a', c', ψ', w', hr, hO', hs', _⟩ := run_appendO (P := P) ht he ty hO hΦ hsrc hlim hs
  refine ⟨_, w', F, _, ?_, hs', hS _ _ hs', h a' c' ψ' hO'⟩
  obtain ⟨cs, hb⟩ := run_builtin (P := P) (d := some d) (ty := ty) (pos := pos) (af := af) (g := g) .append [x, y] #[t, tx] act [.slice a xs.length c, v] (by simp [hc.ev hx, hc.ev hy]) w
  rw [hb]
  simp [builtin, hr]

theorem run_equalIn_slNil {t e : TypeId} (ht : P.underlying t = some (.slice e)) (k : Nat) (a : Option Addr) (l c : Nat) (w : World) : (Op.equalIn (k + 1) t (.slice a l c) (.slice none 0 0)).run P w = .ok a.isNone w := by
  cases a <;> simp [Op.equalIn, run_underlying ht]
/-- A slice, held against nil. -/
theorem WO.slNil {xt yt e : TypeId} {x y : Operand} {a : Option Addr} {l c : Nat} (ho : ops[i]? = some ⟨some d, .binOp .eql xt x y yt, ty, pos, af, g⟩) (hg : gOk ops E g = some true) (hn : Nat.blt d n = true) (hx : ev E x = some (.slice a l c)) (hy : ev E y = some (.slice none 0 0)) (ht : P.underlying xt = some (.slice e))
    (h : WO P ops Q S rest n ((d, .bool a.isNone) :: E) F Φ) : WO P ops Q S ((i, true) :: rest) n E F Φ :=
  WO.binV ho hg hn hx hy (fun w => by rw [eqGuard_at_slice]; rfl) (binOp_eqlV _ _ _ (fun w => run_equalIn_slNil ht _ a l c w) rfl) h
/-- A byte of a constant text. -/
theorem WO.indexStr {t : TypeId} {x y : Operand} {bs : ByteArray} {k : IntKind} {q v : Int} {tab : List Int} (hv : getI tab q = some v) (ho : ops[i]? = some ⟨some d, .index t x y, ty, pos, af, g⟩) (hg : gOk ops E g = some true) (hn : Nat.blt d n = true) (hx : ev E x = some (.string bs)) (hy : ev E y = some (.int k q))
    (ht : P.underlying t = some .string) (hb : bs.data.toList.map (fun b => (b.toNat : Int)) = tab)
    (h : WO P ops Q S rest n ((d, .int .u8 v) :: E) F Φ) : WO P ops Q S ((i, true) :: rest) n E F Φ := by
  obtain ⟨h0, h1, h2⟩ := getI_some hv
  refine WO.yield ho rfl hg hn (fun a hc w _ => ?_) h
  rw [← hb, List.getElem?_map] at h2
  obtain ⟨u, hu, hu2⟩ := Option.map_eq_some_iff.1 h2
  have hbs : bs[q.toNat]? = some u := by
    have hlt : q.toNat < bs.data.toList.length := (List.getElem?_eq_some_iff.1 hu).1
    have hlt' : q.toNat < bs.size := by rw [Array.length_toList] at hlt; exact hlt
    rw [getElem?_pos bs q.toNat hlt']
    have := (List.getElem?_eq_some_iff.1 hu).2
    simp only [Option.some.injEq]
    rw [← this]
    rfl
  have : (Instr.index t (.string bs) (.int k q)).run P w = .ok (.int .u8 v) w := by
    simp [Instr.index, run_underlying ht, asIntOf, h0, hbs, hu2]
  simp [execOp, hc.ev hx, hc.ev hy, this]

/-! ### make, build -/
theorem WO.make {t e : TypeId} {x y : Operand} {k k' : IntKind} {l c : Int} (z : Value) (bytes : Nat) (h0 : 0 ≤ l ∧ l ≤ c ∧ c ≤ lim) (ho : ops[i]? = some ⟨some d, .makeSlice t x y, ty, pos, af, g⟩) (hg : gOk ops E g = some true) (hn : Nat.blt d n = true) (hx : ev E x = some (.int k l)) (hy : ev E y = some (.int k' c))
    (ht : P.underlying t = some (.slice e)) (he : elemB P e 1 bytes = true) (hz : zeroB P e z) (hz1 : z.oneCell' = true) 
    (hS : ∀ b w, Sat F ([(b, row (List.replicate c.toNat z) e)] :: Φ) w → S w)
    (h : ∀ b, WO P ops Q S rest n ((d, .slice (some ⟨b, 0, none⟩) l.toNat c.toNat) :: E) F ([(b, row (List.replicate c.toNat z) e)] :: Φ)) : WO P ops Q S ((i, false) :: rest) n E F Φ := by
  unfold elemB at he
  split at he
  case h_2 => cases he
  rename_i inf hi
  simp only [Bool.and_eq_true, beq_iff_eq, Nat.blt_eq] at he
  obtain ⟨⟨⟨⟨⟨hsz, rfl⟩, hsz0⟩, hby0⟩, hby1⟩, hzz⟩ := he
  have hlim : c ≤ 274877906944 := h0.2.2
  have hzi : inf.zero = some z := by
    unfold zeroB at hz
    rw [hi] at hz
    exact hz
  have hcs : z.cells = #[z] := by cases z <;> first | rfl | (simp [Value.oneCell'] at hz1)
  refine WO.valW ho rfl hg hn fun act w hc hs _ => ?_
  have hs' := hs.alloc (row (List.replicate c.toNat z) e)
  refine ⟨_, _, F, _, ?_, hs', hS _ _ hs', h w.heap.size⟩
  have hb : (inf.bytes : Int) * c ≤ 281474976710656 := by
    have h1 : (inf.bytes : Int) * c ≤ 512 * 274877906944 := Int.mul_le_mul (by omega) hlim (by omega) (by decide)
    omega
  have hr := run_make (P := P) w t e inf z ht hi hzi k k' l c h0.1 h0.2.1 hb (by omega)
  have hm : madeCells z.cells (c.toNat * inf.size) = (List.replicate c.toNat z).toArray := by
    apply Array.ext'
    rw [hcs, hsz, Nat.mul_one, toList_madeCells_one]
  rw [hm] at hr
  simp only [execOp, hc.ev hx, hc.ev hy, Sem.run_bind, hr, Result.andThen_ok, Sem.run_pure]
  rfl
theorem OwnL.ofMake {k : IntKind} {e b : Nat} {c : Int} : OwnL 1 (RInt k) F e (some ⟨b, 0, none⟩) c.toNat (List.replicate c.toNat (0 : Int)) [(b, row (List.replicate c.toNat (.int k 0)) e)] :=
  ⟨by simp, .inr ⟨b, (List.replicate c.toNat (0 : Int)).map fun x => [Value.int k x], [], rfl, by rw [flatten_ints]; simp, Rs.ofInts _, by rw [flatten_ints]; simp⟩⟩
theorem OwnL.ofInts {k : IntKind} {e b : Nat} (xs : List Int) : OwnL 1 (RInt k) F e (some ⟨b, 0, none⟩) xs.length xs [(b, row (xs.map (Value.int k)) e)] :=
  ⟨Nat.le_refl _, .inr ⟨b, xs.map fun x => [Value.int k x], [], rfl, by rw [flatten_ints, List.append_nil], Rs.ofInts _, by rw [flatten_ints]; simp⟩⟩

theorem WO.makeI {t e : TypeId} {x y : Operand} {k k' kk : IntKind} {l : Int} (bytes : Nat) (h0 : 0 ≤ l ∧ l ≤ lim) (ho : ops[i]? = some ⟨some d, .makeSlice t x y, ty, pos, af, g⟩) (hg : gOk ops E g = some true) (hn : Nat.blt d n = true) (hx : ev E x = some (.int k l)) (hy : ev E y = some (.int k' l))
    (ht : P.underlying t = some (.slice e)) (he : elemB P e 1 bytes = true) (hz : zeroB P e (.int kk 0))
    (hS : ∀ ψ w, Sat F (ψ :: Φ) w → S w)
    (h : ∀ a c ψ, OwnL 1 (RInt kk) F1 e a c (List.replicate l.toNat (0 : Int)) ψ → WO P ops Q S rest n ((d, .slice a (List.replicate l.toNat (0 : Int)).length c) :: E) F (ψ :: Φ)) : WO P ops Q S ((i, false) :: rest) n E F Φ := by
  refine WO.make (.int kk 0) bytes ⟨h0.1, Int.le_refl _, h0.2⟩ ho hg hn hx hy ht he hz rfl (fun b w hs => hS _ w hs) fun b => ?_
  have := h _ _ _ (OwnL.ofMake (F := F1) (k := kk) (e := e) (b := b) (c := l))
  rw [List.length_replicate] at this
  exact this
/-- A value that is built out of parts: 'hb' by the kernel. -/
theorem WO.build {t : TypeId} {parts : Array (Nat × Operand)} {vs : List Operand} {us : List Value} (js : List Nat) (v : Value) (ho : ops[i]? = some ⟨some d, .build t parts, ty, pos, af, g⟩) (hg : gOk ops E g = some true) (hn : Nat.blt d n = true)
    (hp : parts = (js.zip vs).toArray) (hvs : evs E vs = some us) (hb : ∀ w, (Instr.build t (js.zip us).toArray).run P w = .ok v w)
    (h : WO P ops Q S rest n ((d, v) :: E) F Φ) : WO P ops Q S ((i, true) :: rest) n E F Φ :=
  WO.yield ho rfl hg hn (fun a hc w _ => by
    have hm : (parts.map fun (i, x) => (i, a.eval x)) = (js.zip us).toArray := by
      subst hp
      rw [List.map_toArray, ← hc.evs hvs]
      congr 1
      rw [List.zip_map_right]
      rfl
    show ((execOp a.eval _).run P w) = _
    have hb' := hb w
    rw [← hm] at hb'
    simp only [execOp, Sem.run_bind, hb', Result.andThen_ok, Sem.run_pure]) h
theorem WO.buildSl {t e : TypeId} {len : Nat} {parts : Array (Nat × Operand)} {vs : List Operand} {us : List Value} (js : List Nat) (cs : List Value) (ho : ops[i]? = some ⟨some d, .buildSlice t len parts, ty, pos, af, g⟩) (hg : gOk ops E g = some true) (hn : Nat.blt d n = true)
    (hp : parts = (js.zip vs).toArray) (hvs : evs E vs = some us) (hb : ∀ w, (Instr.buildSlice t len (js.zip us).toArray).run P w = .ok (.slice (some ⟨w.heap.size, 0, none⟩) len len) { w with heap := w.heap.push (row cs e) })
    (hS : ∀ b w, Sat F ([(b, row cs e)] :: Φ) w → S w) (h : ∀ b, WO P ops Q S rest n ((d, .slice (some ⟨b, 0, none⟩) len len) :: E) F ([(b, row cs e)] :: Φ)) : WO P ops Q S ((i, false) :: rest) n E F Φ :=
  WO.buildSlice ho hg hn (fun a hc w => by
    have hm : (parts.map fun (i, x) => (i, a.eval x)) = (js.zip us).toArray := by
      subst hp
      rw [List.map_toArray, ← hc.evs hvs]
      congr 1
      rw [List.zip_map_right]
      rfl
    have hb' := hb w
    rw [← hm] at hb'
    exact hb') hS h
/-- A part of a value. -/
theorem WO.field1 {t : TypeId} {x : Operand} {f : Nat} {cs : Array Value} {v : Value} (ho : ops[i]? = some ⟨some d, .field t x f, ty, pos, af, g⟩) (hg : gOk ops E g = some true) (hn : Nat.blt d n = true) (hx : ev E x = some (.agg cs)) (hb : ∀ w, (Instr.field t (.agg cs) f).run P w = .ok v w)
    (h : WO P ops Q S rest n ((d, v) :: E) F Φ) : WO P ops Q S ((i, true) :: rest) n E F Φ :=
  WO.yield ho rfl hg hn (fun a hc w _ => by simp [execOp, hc.ev hx, hb]) h
theorem WO.index1 {t : TypeId} {x y : Operand} {u v : Value} {cs : Array Value} (ho : ops[i]? = some ⟨some d, .index t x y, ty, pos, af, g⟩) (hg : gOk ops E g = some true) (hn : Nat.blt d n = true) (hx : ev E x = some (.agg cs)) (hy : ev E y = some u) (hb : ∀ w, (Instr.index t (.agg cs) u).run P w = .ok v w)
    (h : WO P ops Q S rest n ((d, v) :: E) F Φ) : WO P ops Q S ((i, true) :: rest) n E F Φ :=
  WO.yield ho rfl hg hn (fun a hc w _ => by simp [execOp, hc.ev hx, hc.ev hy, hb]) h
/-- A place of an array in memory. -/
theorem WO.indexA {t e : TypeId} {x y : Operand} {b o len : Nat} {k : IntKind} {q : Int} (hq : 0 ≤ q ∧ q < len) (ho : ops[i]? = some ⟨some d, .indexAddr t x y, ty, pos, af, g⟩) (hg : gOk ops E g = some true) (hn : Nat.blt d n = true) (hx : ev E x = some (.pointer (some ⟨b, o, none⟩))) (hy : ev E y = some (.int k q))
    (ht : P.underlying t = some (.array len e)) (hsz : sizeB P e sz = true)
    (h : WO P ops Q S rest n ((d, .pointer (some ⟨b, o + q.toNat * sz, none⟩)) :: E) F Φ) : WO P ops Q S ((i, true) :: rest) n E F Φ :=
  WO.yield ho rfl hg hn (fun a hc w _ => by
    have : (Instr.indexAt t (.pointer (some ⟨b, o, none⟩)) (.int k q)).run P w = .ok (.pointer (some ⟨b, o + q.toNat * sz, none⟩)) w := by
      simp [Instr.indexAt, run_underlying ht, asIntOf, Instr.sureAddr, hq.1, hq.2, run_sizeOf hsz, addr_add]
    simp [execOp, hc.ev hx, hc.ev hy, this]) h
/-- A cell of an own array of whole numbers. -/
theorem WO.loadAr {t : TypeId} {x : Operand} {k : IntKind} {e b : Nat} {q v : Int} {xs : List Int} (gi : Nat) (hv : getI xs q = some v) (hΦ : Φ[gi]? = some [(b, row (xs.map (Value.int k)) e)])
    (ho : ops[i]? = some ⟨some d, .load t x, ty, pos, af, g⟩) (hg : gOk ops E g = some true) (hn : Nat.blt d n = true) (hx : ev E x = some (.pointer (some ⟨b, 0 + q.toNat * 1, none⟩))) (ht : scalarB P t = true)
    (h : WO P ops Q S rest n ((d, .int k v) :: E) F Φ) : WO P ops Q S ((i, false) :: rest) n E F Φ := by
  obtain ⟨h0, h1, h2⟩ := getI_some hv
  refine WO.load gi ho hg hn hx ht hΦ ?_ h
  rw [Nat.mul_one, Nat.zero_add, List.getElem?_map, h2]
  rfl

theorem WO.loadArY {t : TypeId} {x : Operand} {k : IntKind} {e b : Nat} {q v : Int} {xs : List Int} (gi : Nat) (hv : getI xs q = some v) (hΦ : Φ0[gi]? = some [(b, row (xs.map (Value.int k)) e)])
    (ho : ops[i]? = some ⟨some d, .load t x, ty, pos, af, g⟩) (hg : gOk ops E g = some true) (hn : Nat.blt d n = true) (hx : ev E x = some (.pointer (some ⟨b, 0 + q.toNat * 1, none⟩))) (ht : scalarB P t = true)
    (h : WO P ops Q (Sat F0 Φ0) rest n ((d, .int k v) :: E) F Φ) : WO P ops Q (Sat F0 Φ0) ((i, true) :: rest) n E F Φ := by
  obtain ⟨h0, h1, h2⟩ := getI_some hv
  refine WO.loadY gi ho hg hn hx ht hΦ ?_ h
  rw [Nat.mul_one, Nat.zero_add, List.getElem?_map, h2]
  rfl

/-! ### A function's proof -/
def RV : List Value → Value
  | [v] => v
  | vs => .tuple vs.toArray
/-- What a result variable holds. -/
def resV (P : Program) (a : Act) (w : World) : ResultVar → Value → Prop
  | .tmp t, v => a.tmps.getD t undef = v
  | .cell ad t, v => ∃ x, a.tmps.getD ad undef = .pointer (some x) ∧ (loadVar t x).run P w = .ok v w
def resVs (P : Program) (a : Act) (w : World) : List ResultVar → List Value → Prop
  | [], [] => True
  | r :: rs, v :: vs => resV P a w r v ∧ resVs P a w rs vs
  | _, _ => False
theorem resVs_nil {a : Act} {w : World} : resVs P a w [] [] := trivial
theorem resVs_cons {a : Act} {w : World} {r rs v vs} (h : resV P a w r v) (k : resVs P a w rs vs) : resVs P a w (r :: rs) (v :: vs) := ⟨h, k⟩
def retPost (P : Program) (rs : List ResultVar) (R : Value → World → Prop) : Post where
  normal := fun a w => a.defers = [] ∧ ∃ vs, resVs P a w rs vs ∧ R (RV vs) w
  ret := fun a w => a.defers = [] ∧ ∃ vs, resVs P a w rs vs ∧ R (RV vs) w
  exit := fun _ _ _ => False

theorem run_results {fn : Func} {rs : List ResultVar} (h : fn.results = rs.toArray) {a : Act} {w : World} {vs : List Value} (hv : resVs P a w rs vs) : (results fn a.tmps).run P w = .ok (RV vs) w := by
  have key : ∀ (f : ResultVar → Sem Value), (∀ r v, resV P a w r v → (f r).run P w = .ok v w) → ∀ (l : List ResultVar) (us : List Value), resVs P a w l us → (l.mapM f).run P w = .ok us w := by
    intro f hf l
    induction l with
    | nil => intro us hu; cases us with | nil => rfl | cons u us => exact hu.elim
    | cons r l ih =>
      intro us hu
      cases us with
      | nil => exact hu.elim
      | cons u us => simp [List.mapM_cons, hf r u hu.1, ih us hu.2]
  have hm : ∀ (f : ResultVar → Sem Value), (∀ r v, resV P a w r v → (f r).run P w = .ok v w) → (rs.toArray.mapM f).run P w = .ok vs.toArray w := by
    intro f hf
    rw [List.mapM_toArray]
    simp [key f hf rs vs hv]
  unfold results
  rw [h, Sem.run_bind, hm _ (fun r v hr => by
    cases r with
    | tmp t => simp only [resV] at hr; simp [hr]
    | cell ad t => obtain ⟨x, h1, h2⟩ := hr; simp [h1, asAddr, h2])]
  simp only [Result.andThen_ok, Sem.run_pure]
  congr 1
  match vs with
  | [] => rfl
  | [v] => rfl
  | v :: u :: l => simp [RV]

def zipE (i : Nat) : List Value → Env
  | [] => []
  | v :: vs => (i, v) :: zipE (i + 1) vs
theorem look_zipE : ∀ (vs : List Value) (i t : Nat) (v : Value), look (zipE i vs) t = some v → i ≤ t ∧ vs[t - i]? = some v
  | [], i, t, v, h => by cases h
  | u :: vs, i, t, v, h => by
    simp only [zipE, look] at h
    by_cases e : i = t
    · subst e
      simp at h
      simp [h]
    · rw [beq_false e] at h
      obtain ⟨h1, h2⟩ := look_zipE vs (i + 1) t v h
      refine ⟨by omega, ?_⟩
      obtain ⟨k, rfl⟩ : ∃ k, t = i + 1 + k := ⟨t - (i + 1), by omega⟩
      have e1 : i + 1 + k - (i + 1) = k := by omega
      have e2 : i + 1 + k - i = k + 1 := by omega
      rw [e1] at h2
      rw [e2]
      simpa using h2
theorem CallsRet.enter {f : FuncId} {fn : Func} {c : Code} {vs : List Value} {rs : List ResultVar} {R : Value → World → Prop} (hf : P.funcs[f]? = some fn) (hb : fn.body = some c) (hnt : fn.ntmps = n) (hr : fn.results = rs.toArray) (hl : Nat.ble vs.length n = true)
    (h : WC P c (retPost P rs R) n (zipE 0 vs) F Φ) : CallsRet P f vs.toArray F Φ R := fun w hs => by
  refine calls_of_wp hf hb ?_
  have hl' : vs.length ≤ n := Nat.le_of_ble_eq_true hl
  have hc : Ctx n (zipE 0 vs) { tmps := vs.toArray ++ Array.replicate (fn.ntmps - vs.toArray.size) undef, defers := [] } := by
    refine ⟨by simp [hnt]; omega, rfl, fun t v ht => ?_⟩
    obtain ⟨_, h2⟩ := look_zipE vs 0 t v ht
    simp only [Nat.sub_zero] at h2
    have hlt : t < vs.length := (List.getElem?_eq_some_iff.1 h2).1
    rw [Array.getElem?_append_left (by simpa using hlt)]
    simpa using h2
  refine wp_mono (h _ w hc hs) fun e a w' hq => ?_
  cases e with
  | normal => obtain ⟨h1, us, h2, h3⟩ := hq; exact bodyPost_end (run_results hr h2) h1 ⟨_, rfl, h3⟩
  | ret => obtain ⟨h1, us, h2, h3⟩ := hq; exact bodyPost_ret (run_results hr h2) h1 ⟨_, rfl, h3⟩
  | _ => exact hq.elim
theorem Ctx.res {a} {w : World} (hc : Ctx n E a) {t : Nat} {v : Value} (h : look E t = some v) : resV P a w (.tmp t) v := by
  simp [resV, Array.getD_eq_getD_getElem?, hc.get t v h]
theorem Ctx.resA {a} {w : World} (hc : Ctx n E a) (hs : Sat F Φ w) {t ad b e : Nat} {m : Nat} {cs : List Value} (gi : Nat) (h : look E ad = some (.pointer (some ⟨b, 0, none⟩))) (hΦ : Φ[gi]? = some [(b, row cs e)]) (ht : aggB P t m = true) (hl : cs.length = m) :
    resV P a w (.cell ad t) (.agg cs.toArray) := by
  refine ⟨⟨b, 0, none⟩, by simp [Array.getD_eq_getD_getElem?, hc.get ad _ h], ?_⟩
  have hm : (b, row cs e) ∈ Φ.flatten := List.mem_flatten.2 ⟨_, List.mem_of_getElem? hΦ, by simp⟩
  have := run_loadAt_agg (P := P) ht hl (b := b) (o := 0) (w := w) (fun j v hj => cell_of (hs.mem hm) (by simpa using hj))
  simpa [Instr.loadAt, Instr.sureAddr] using this
theorem Ctx.resS {a} {w : World} (hc : Ctx n E a) (hs : Sat F Φ w) {t ad b e : Nat} {v : Value} (gi : Nat) (h : look E ad = some (.pointer (some ⟨b, 0, none⟩))) (hΦ : Φ[gi]? = some [(b, row [v] e)]) (ht : scalarB P t = true) :
    resV P a w (.cell ad t) v := by
  refine ⟨⟨b, 0, none⟩, by simp [Array.getD_eq_getD_getElem?, hc.get ad _ h], ?_⟩
  have hm : (b, row [v] e) ∈ Φ.flatten := List.mem_flatten.2 ⟨_, List.mem_of_getElem? hΦ, by simp⟩
  have := run_loadAt_scalar (P := P) ht (w := w) (a := ⟨b, 0, none⟩) (v := v) (cell_of (hs.mem hm) (by simp))
  simpa [Instr.loadAt, Instr.sureAddr] using this
theorem At.ret {rs : List ResultVar} {vs : List Value} {R : Value → World → Prop} (hv : ∀ a w, Ctx n E a → Sat F Φ w → resVs P a w rs vs) (hR : ∀ w, Sat F Φ w → R (RV vs) w) : At (retPost P rs R).ret n E F Φ :=
  fun a w hc hs => ⟨hc.defers, vs, hv a w hc hs, hR w hs⟩
theorem At.end {rs : List ResultVar} {vs : List Value} {R : Value → World → Prop} (hv : ∀ a w, Ctx n E a → Sat F Φ w → resVs P a w rs vs) (hR : ∀ w, Sat F Φ w → R (RV vs) w) : At (retPost P rs R).normal n E F Φ :=
  fun a w hc hs => ⟨hc.defers, vs, hv a w hc hs, hR w hs⟩
theorem WO.relen {l} (t : Nat) {a : Option Addr} {k k' c : Nat} (ht : look E t = some (.slice a k c)) (hk : k = k') (h : WO P ops Q S l n ((t, .slice a k' c) :: E) F Φ) : WO P ops Q S l n E F Φ := fun act w hc hs hS => by
  subst hk
  exact h act w (hc.keep hc ht) hs hS

theorem WC.use {c : Code} {a : Act} {w : World} (hc : Ctx n E a) (hs : Sat F Φ w) (h : WC P c Q n E F Φ) : c.wp P Q.k a w := h a w hc hs
theorem CallsRet.freeze {f : FuncId} {args : Array Value} {R : Value → World → Prop} (gi : Nat) {ψ} (hΦ : Φ[gi]? = some ψ) (h : CallsRet P f args (F.add ψ) (Φ.eraseIdx gi) R) : CallsRet P f args F Φ R :=
  fun w hs => h w (hs.freezeAt hΦ)
/-- What does not look at memory. -/
def Const (R : Mem → List Value → X → Prop) : Prop := ∀ (F G : Mem) (cs : List Value) (x : X), R F cs x → R G cs x
theorem OwnL.re (hR : Const R) {F G : Mem} {e a c} {xs : List X} {ψ} (k : OwnL sz R F e a c xs ψ) : OwnL sz R G e a c xs ψ := by
  refine ⟨k.1, k.2.imp id ?_⟩
  rintro ⟨b, gs, sp, h1, h2, h3, h4⟩
  exact ⟨b, gs, sp, h1, h2, ⟨h3.1, fun j cs x k1 k2 => ⟨(h3.2 j cs x k1 k2).1, hR _ _ _ _ (h3.2 j cs x k1 k2).2.1, (h3.2 j cs x k1 k2).2.2⟩⟩, h4⟩
theorem const_int (k : IntKind) : Const (RInt k) := fun _ _ _ _ h => h
theorem const_bool : Const RBool := fun _ _ _ _ h => h
/-- Memory, laid anew. -/
theorem WO.arrange {l} (k m : Nat) (is js : List Nat) (hn : okIs (k + m) (is ++ js) = true) (F' : Mem) (Φ' : List (List Chunk)) (hF : F' = ⟨F.w0, F.B, Pel.pick (F.toks.take k ++ Φ.take m) is ++ F.toks.drop k⟩) (hΦ : Φ' = Pel.pick (F.toks.take k ++ Φ.take m) js ++ Φ.drop m)
    (h : WO P ops Q S l n E F' Φ') : WO P ops Q S l n E F Φ := fun a w hc hs hS => h a w hc (by rw [hF, hΦ]; exact hs.arrange k m is js hn) hS
theorem WC.arrange {c : Code} (k m : Nat) (is js : List Nat) (hn : okIs (k + m) (is ++ js) = true) (F' : Mem) (Φ' : List (List Chunk)) (hF : F' = ⟨F.w0, F.B, Pel.pick (F.toks.take k ++ Φ.take m) is ++ F.toks.drop k⟩) (hΦ : Φ' = Pel.pick (F.toks.take k ++ Φ.take m) js ++ Φ.drop m)
    (h : WC P c Q n E F' Φ') : WC P c Q n E F Φ := fun a w hc hs => h a w hc (by rw [hF, hΦ]; exact hs.arrange k m is js hn)
theorem At.arrange {K : Act → World → Prop} (k m : Nat) (is js : List Nat) (hn : okIs (k + m) (is ++ js) = true) (F' : Mem) (Φ' : List (List Chunk)) (hF : F' = ⟨F.w0, F.B, Pel.pick (F.toks.take k ++ Φ.take m) is ++ F.toks.drop k⟩) (hΦ : Φ' = Pel.pick (F.toks.take k ++ Φ.take m) js ++ Φ.drop m)
    (h : At K n E F' Φ') : At K n E F Φ := fun a w hc hs => h a w hc (by rw [hF, hΦ]; exact hs.arrange k m is js hn)
/-- A call, over memory laid anew: what is read by the arguments is one token. -/
theorem CallsRet.lay {f : FuncId} {args : Array Value} {R : Value → World → Prop} (k m g : Nat) (is js : List Nat) (hn : okIs (k + m) (is ++ js) = true) (F' : Mem) (Φ' : List (List Chunk))
    (hF : F' = ⟨F.w0, F.B, ((Pel.pick (F.toks.take k ++ Φ.take m) is ++ F.toks.drop k).take g).flatten :: (Pel.pick (F.toks.take k ++ Φ.take m) is ++ F.toks.drop k).drop g⟩) (hΦ : Φ' = Pel.pick (F.toks.take k ++ Φ.take m) js ++ Φ.drop m)
    (h : CallsRet P f args F' Φ' R) : CallsRet P f args F Φ R := fun w hs => h w (by rw [hF, hΦ]; exact (hs.arrange k m is js hn).gather g)
theorem CallsRet.lay0 {f : FuncId} {args : Array Value} {R : Value → World → Prop} (k m : Nat) (is js : List Nat) (hn : okIs (k + m) (is ++ js) = true) (F' : Mem) (Φ' : List (List Chunk))
    (hF : F' = ⟨F.w0, F.B, Pel.pick (F.toks.take k ++ Φ.take m) is ++ F.toks.drop k⟩) (hΦ : Φ' = Pel.pick (F.toks.take k ++ Φ.take m) js ++ Φ.drop m)
    (h : CallsRet P f args F' Φ' R) : CallsRet P f args F Φ R := fun w hs => h w (by rw [hF, hΦ]; exact hs.arrange k m is js hn)
/-- Behind a call: the arguments' token is parted again. -/
theorem Sat.unlay {w : World} (F : Mem) (l : List (List Chunk)) (h : Sat (Mem.add F l.flatten) Φ w) : Sat ⟨F.w0, F.B, l ++ F.toks⟩ Φ w := h.ungather
theorem Sat.unlay1 {w : World} (F : Mem) (l : List (List Chunk)) (ψ : List Chunk) (h : Sat (Mem.add (Mem.add F l.flatten) ψ) Φ w) : Sat ⟨F.w0, F.B, ψ :: (l ++ F.toks)⟩ Φ w :=
  (h.thaw.ungather).freeze
theorem Mem.le_unlay (F : Mem) (l : List (List Chunk)) : (Mem.add F l.flatten).le ⟨F.w0, F.B, l ++ F.toks⟩ :=
  ⟨rfl, rfl, [], by
    show ((l.flatten ++ F.toks.flatten) ++ []).Perm (l ++ F.toks).flatten
    rw [List.append_nil, List.flatten_append]⟩
theorem Mem.le_unlay1 (F : Mem) (l : List (List Chunk)) (ψ : List Chunk) : (Mem.add (Mem.add F l.flatten) ψ).le ⟨F.w0, F.B, ψ :: (l ++ F.toks)⟩ :=
  ⟨rfl, rfl, [], by
    show ((ψ ++ (l.flatten ++ F.toks.flatten)) ++ []).Perm (ψ ++ (l ++ F.toks).flatten)
    rw [List.append_nil, List.flatten_append]⟩
theorem WO.freeze {l} (gi : Nat) {ψ} (hΦ : Φ[gi]? = some ψ) (h : WO P ops Q S l n E (F.add ψ) (Φ.eraseIdx gi)) : WO P ops Q S l n E F Φ := fun a w hc hs hS => h a w hc (hs.freezeAt hΦ) hS
theorem WC.freeze {c : Code} (gi : Nat) {ψ} (hΦ : Φ[gi]? = some ψ) (h : WC P c Q n E (F.add ψ) (Φ.eraseIdx gi)) : WC P c Q n E F Φ := fun a w hc hs => h a w hc (hs.freezeAt hΦ)
theorem WC.pick {c : Code} (is : List Nat) (hn : is.Nodup) (h : WC P c Q n E F (pick Φ is)) : WC P c Q n E F Φ := fun a w hc hs => h a w hc (hs.pick is hn)

/-- The post of a loop's round. -/
def roundPost {T X : Type} (I : T → Act → World → Prop) (Q : Post) (x : X) (r : T ⊕ X) : Post where
  normal := fun a w => ∃ s, r = .inl s ∧ I s a w
  ret := fun a w => ∃ y, r = .inr y ∧ (y = x → Q.ret a w)
  exit := fun id a w => ∃ y, r = .inr y ∧ (y = x → Q.exit id a w)
theorem WC.loop {T X : Type} {c : Code} {body : T → Option (T ⊕ X)} {s0 : T} {x : X} (I : T → Act → World → Prop) (hx : loopO body s0 = some x) (hI : At (I s0) n E F Φ)
    (round : ∀ s r, body s = some r → ∀ a w, I s a w → c.wp P (roundPost I Q x r).k a w) : WC P (.loop c) Q n E F Φ := fun a w hc hs =>
  wp_loopO body I x (fun s r hb a w hi => wp_mono (round s r hb a w hi) fun e a w h => by
    cases e with
    | normal => obtain ⟨s', rfl, h⟩ := h; exact h
    | ret => obtain ⟨y, rfl, h⟩ := h; exact h
    | exit id => obtain ⟨y, rfl, h⟩ := h; exact h
    | _ => exact h.elim) s0 a w hx (hI a w hc hs)

/-- What comes out of a loop with returns inside. -/
inductive Lp (R V : Type) where
  | ret (r : R)
  | brk (v : V)

theorem At.exit_block {id : Nat} (h : At Q.normal n E F Φ) : At ((Q.block id).exit id) n E F Φ := fun a w hc hs => by
  show (if id = id then Q.normal a w else Q.exit id a w)
  rw [if_pos rfl]; exact h a w hc hs
theorem At.exit_outer {id id' : Nat} (hne : id' ≠ id) (h : At (Q.exit id') n E F Φ) : At ((Q.block id).exit id') n E F Φ := fun a w hc hs => by
  show (if id' = id then Q.normal a w else Q.exit id' a w)
  rw [if_neg hne]; exact h a w hc hs
theorem At.round_exit {T X : Type} {I : T → Act → World → Prop} {x y : X} {r : T ⊕ X} {id : Nat} (hr : some (Sum.inr y) = some r) (h : y = x → At (Q.exit id) n E F Φ) : At ((roundPost I Q x r).exit id) n E F Φ :=
  fun a w hc hs => ⟨y, (Option.some.inj hr).symm, fun e => h e a w hc hs⟩
theorem At.round_ret {T X : Type} {I : T → Act → World → Prop} {x y : X} {r : T ⊕ X} (hr : some (Sum.inr y) = some r) (h : y = x → At Q.ret n E F Φ) : At ((roundPost I Q x r).ret) n E F Φ :=
  fun a w hc hs => ⟨y, (Option.some.inj hr).symm, fun e => h e a w hc hs⟩
theorem At.round_next {T X : Type} {I : T → Act → World → Prop} {x : X} {s : T} {r : T ⊕ X} (hr : some (Sum.inl s) = some r) (h : At (I s) n E F Φ) : At ((roundPost I Q x r).normal) n E F Φ :=
  fun a w hc hs => ⟨s, (Option.some.inj hr).symm, h a w hc hs⟩
theorem At.block_normal {id : Nat} (h : At Q.normal n E F Φ) : At (Q.block id).normal n E F Φ := h
theorem At.block_ret {id : Nat} (h : At Q.ret n E F Φ) : At (Q.block id).ret n E F Φ := h
theorem At.seq_ret {N : Act → World → Prop} (h : At Q.ret n E F Φ) : At (Q.seq N).ret n E F Φ := h
theorem At.seq_exit {N : Act → World → Prop} {id : Nat} (h : At (Q.exit id) n E F Φ) : At ((Q.seq N).exit id) n E F Φ := h
theorem At.seq_wc {c : Code} (h : WC P c Q n E F Φ) : At (Q.seq (c.wp P Q.k)).normal n E F Φ := h
theorem At.seq_at {N : Act → World → Prop} (h : At N n E F Φ) : At (Q.seq N).normal n E F Φ := h
theorem At.use {K : Act → World → Prop} {a : Act} {w : World} (hc : Ctx n E a) (hs : Sat F Φ w) (h : At K n E F Φ) : K a w := h a w hc hs
theorem WC.weaken {c : Code} (N : Act → World → Prop) (h : WC P c (Q.seq N) n E F Φ) (hN : ∀ a w, N a w → Q.normal a w) : WC P c Q n E F Φ := fun a w hc hs =>
  wp_mono (h a w hc hs) fun e a w k => by
    cases e with
    | normal => exact hN a w k
    | _ => exact k
theorem Sat.front {w : World} (h : Sat F Φ w) (k : Nat) (is : List Nat) (hn : is.Nodup ∧ ∀ i ∈ is, i < k) : Sat F ((is.map fun i => Φ.getD i []) ++ Φ.drop k) w := by
  have hp := h.pick (is ++ (List.range (Φ.length - k)).map (· + k)) (by
    rw [List.nodup_append]
    refine ⟨hn.1, ?_, fun a ha b hb e => ?_⟩
    · exact List.Pairwise.map _ (fun a b hab => by omega) List.nodup_range
    · obtain ⟨j, _, rfl⟩ := List.mem_map.1 hb
      have := hn.2 a ha
      omega)
  refine hp.perm ?_
  have : Pel.pick Φ (is ++ (List.range (Φ.length - k)).map (· + k)) = (is.map fun i => Φ.getD i []) ++ Φ.drop k := by
    unfold Pel.pick
    rw [List.map_append, List.map_map]
    congr 1
    apply List.ext_getElem?
    intro j
    by_cases hj : j < Φ.length - k
    · have hlt : k + j < Φ.length := by omega
      simp [hj, Nat.add_comm j k, hlt]
    · rw [List.getElem?_eq_none (by simp; omega), List.getElem?_eq_none (by simp; omega)]
  rw [this]
theorem WC.reenv {c : Code} {E' : Env} (hE : ∀ a, Ctx n E a → Ctx n E' a) (h : WC P c Q n E' F Φ) : WC P c Q n E F Φ := fun a w hc hs => h a w (hE a hc) hs
theorem WO.empty {l} (h : WO P ops Q S l n E F ([] :: Φ)) : WO P ops Q S l n E F Φ := fun a w hc hs hS => h a w hc (hs.perm (by simp)) hS
theorem WC.empty {c : Code} (h : WC P c Q n E F ([] :: Φ)) : WC P c Q n E F Φ := fun a w hc hs => h a w hc (hs.perm (by simp))
theorem At.empty {K : Act → World → Prop} (h : At K n E F ([] :: Φ)) : At K n E F Φ := fun a w hc hs => h a w hc (hs.perm (by simp))
theorem At.freeze {K : Act → World → Prop} (gi : Nat) {ψ} (hΦ : Φ[gi]? = some ψ) (h : At K n E (F.add ψ) (Φ.eraseIdx gi)) : At K n E F Φ := fun a w hc hs => h a w hc (hs.freezeAt hΦ)

/-! ### The pure side -/
def guardO {R : Type} (c : Prop) [Decidable c] (k : Option R) : Option R := if c then k else none
theorem guardO_some {R : Type} {c : Prop} [Decidable c] {k : Option R} {r : R} (h : guardO c k = some r) : c ∧ k = some r := by
  unfold guardO at h
  split at h
  · exact ⟨‹c›, h⟩
  · cases h
theorem bind_some' {A R : Type} {x : Option A} {k : A → Option R} {r : R} (h : x.bind k = some r) : ∃ a, x = some a ∧ k a = some r := Option.bind_eq_some_iff.1 h
theorem cond_t {R : Type} {t : Bool} {x y : Option R} {r : R} (ht : t = true) (h : cond t x y = some r) : x = some r := by subst ht; exact h
theorem cond_f {R : Type} {t : Bool} {x y : Option R} {r : R} (ht : t = false) (h : cond t x y = some r) : y = some r := by subst ht; exact h
end
end Go.Pel

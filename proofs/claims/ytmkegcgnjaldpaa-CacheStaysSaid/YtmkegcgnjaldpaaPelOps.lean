/- One rule for each operation. -/
import Derived.Test.YtmkegcgnjaldpaaPelWalk
import Derived.Deep.AppendSrc
import Derived.Laws.MakeOwn
namespace Go.Pel
open Go.RowKit

/-- A row of cells of an own block. -/
abbrev row (cs : List Value) (e : TypeId) : Obj := .cells cs.toArray e (0, 0)

def scalarB (P : Program) (t : TypeId) : Bool :=
  match P.underlying t with
  | some (.struct _) | some (.array _ _) | none => false
  | some _ => true
def aggB (P : Program) (t : TypeId) (m : Nat) : Bool :=
  (match P.underlying t with
  | some (.struct _) | some (.array _ _) => true
  | _ => false) && (match P.info? t with | some i => i.size == m | none => false)
def sizeB (P : Program) (t : TypeId) (m : Nat) : Bool := match P.info? t with | some i => i.size == m | none => false
theorem run_sizeOf {P : Program} {t : TypeId} {m : Nat} (h : sizeB P t m = true) (w : World) : (sizeOf t).run P w = .ok m w := by
  unfold sizeB at h
  split at h
  · rename_i i hi
    simp only [beq_iff_eq] at h
    simp [sizeOf, typeInfo, hi, h]
  · cases h
theorem run_isAgg_no {P : Program} {t : TypeId} (h : scalarB P t = true) (w : World) : (isAgg t).run P w = .ok false w := by
  unfold scalarB at h
  cases hu : P.underlying t with
  | none => rw [hu] at h; cases h
  | some d => rw [hu] at h; cases d <;> simp [isAgg, run_underlying hu] at h ⊢
theorem run_isAgg_yes {P : Program} {t : TypeId} {m : Nat} (h : aggB P t m = true) (w : World) : (isAgg t).run P w = .ok true w := by
  unfold aggB at h
  simp only [Bool.and_eq_true] at h
  have h := h.1
  cases hu : P.underlying t with
  | none => rw [hu] at h; cases h
  | some d => rw [hu] at h; cases d <;> simp [isAgg, run_underlying hu] at h ⊢
theorem aggB_size {P : Program} {t : TypeId} {m : Nat} (h : aggB P t m = true) : sizeB P t m = true := by
  unfold aggB at h
  simp only [Bool.and_eq_true] at h
  exact h.2

/-! ### Cells that are read -/

/-- From place 'o' on block 'b' holds the cells 'cs', and nobody writes them. -/
def Cells (F : Mem) (b o : Nat) (cs : List Value) : Prop := ∃ c e z, F.has b (.cells c e z) ∧ ∀ j v, cs[j]? = some v → c[o + j]? = some v
theorem Cells.mono {F G : Mem} (h : F.le G) {b o cs} (k : Cells F b o cs) : Cells G b o cs := by
  obtain ⟨c, e, z, k1, k2⟩ := k
  exact ⟨c, e, z, k1.mono h, k2⟩
theorem Cells.cell {F : Mem} {Φ} {w : World} (h : Sat F Φ w) {b o cs} (k : Cells F b o cs) {j : Nat} {v : Value} (hv : cs[j]? = some v) : w.cell? ⟨b, o + j, none⟩ = some v := by
  obtain ⟨c, e, z, k1, k2⟩ := k
  exact cell_of (h.has k1) (k2 j v hv)
theorem Cells.drop {F : Mem} {b o : Nat} {xs ys : List Value} (k : Cells F b o (xs ++ ys)) : Cells F b (o + xs.length) ys := by
  obtain ⟨c, e, z, k1, k2⟩ := k
  refine ⟨c, e, z, k1, fun j v hv => ?_⟩
  have := k2 (xs.length + j) v (by rw [List.getElem?_append_right (by omega)]; simpa using hv)
  rw [Nat.add_assoc]; exact this
theorem Cells.take {F : Mem} {b o : Nat} {xs ys : List Value} (k : Cells F b o (xs ++ ys)) : Cells F b o xs := by
  obtain ⟨c, e, z, k1, k2⟩ := k
  refine ⟨c, e, z, k1, fun j v hv => k2 j v ?_⟩
  have hj : j < xs.length := by
    rcases Nat.lt_or_ge j xs.length with hl | hl
    · exact hl
    · rw [List.getElem?_eq_none hl] at hv; cases hv
  rw [List.getElem?_append_left hj]; exact hv

theorem addr_add (b o n : Nat) : Addr.add ⟨b, o, none⟩ n = ⟨b, o + n, none⟩ := Addr.add_lit b o n

theorem run_loadAt_scalar {P : Program} {t : TypeId} (h : scalarB P t = true) {w : World} {a : Addr} {v : Value} (hc : w.cell? a = some v) :
    (Instr.loadAt t (.pointer (some a))).run P w = .ok v w := by
  simp [Instr.loadAt, Instr.sureAddr, loadVar, run_isAgg_no h, hc]
theorem run_loadAt_agg {P : Program} {t : TypeId} {m : Nat} (h : aggB P t m = true) {w : World} {b o : Nat} {cs : List Value} (hl : cs.length = m) (hc : ∀ j v, cs[j]? = some v → w.cell? ⟨b, o + j, none⟩ = some v) :
    (Instr.loadAt t (.pointer (some ⟨b, o, none⟩))).run P w = .ok (.agg cs.toArray) w := by
  have hr : (loadCells ⟨b, o, none⟩ m).run P w = .ok cs.toArray w := by
    rw [← hl]
    exact run_loadCells_list w ⟨b, o, none⟩ cs (fun j v hv => by rw [addr_add]; exact hc j v hv)
  simp [Instr.loadAt, Instr.sureAddr, loadVar, run_isAgg_yes h, run_sizeOf (aggB_size h), hr]

section
variable {P : Program} {ops : Array Oper} {Q : Post} {S : World → Prop} {n : Nat} {E : Env} {F F0 : Mem} {Φ Φ0 : List (List Chunk)}
variable {i d ty : Nat} {pos : String} {af : Array Edge} {g : Option (Nat × Bool)} {rest : List (Nat × Bool)}

theorem WO.move {x : Operand} {v : Value} (ho : ops[i]? = some ⟨some d, .move x, ty, pos, af, g⟩) (hg : gOk ops E g = some true) (hn : Nat.blt d n = true) (hx : ev E x = some v)
    (h : WO P ops Q S rest n ((d, v) :: E) F Φ) : WO P ops Q S ((i, true) :: rest) n E F Φ :=
  WO.yield ho rfl hg hn (fun a hc w _ => by simp [execOp, hc.ev hx]) h
theorem WO.assign {x : Operand} {v : Value} (ho : ops[i]? = some ⟨some d, .assign x, ty, pos, af, g⟩) (hg : gOk ops E g = some true) (hn : Nat.blt d n = true) (hx : ev E x = some v)
    (h : WO P ops Q S rest n ((d, v) :: E) F Φ) : WO P ops Q S ((i, true) :: rest) n E F Φ :=
  WO.yield ho rfl hg hn (fun a hc w _ => by simp [execOp, hc.ev hx]) h
theorem WO.pickT {c x y : Operand} {v : Value} (ho : ops[i]? = some ⟨some d, .pick c x y, ty, pos, af, g⟩) (hg : gOk ops E g = some true) (hn : Nat.blt d n = true) (hc : ev E c = some (.bool true)) (hx : ev E x = some v)
    (h : WO P ops Q S rest n ((d, v) :: E) F Φ) : WO P ops Q S ((i, true) :: rest) n E F Φ :=
  WO.yield ho rfl hg hn (fun a hctx w _ => by simp [execOp, hctx.ev hx, hctx.ev hc, asBool]) h
theorem WO.pickF {c x y : Operand} {v : Value} (ho : ops[i]? = some ⟨some d, .pick c x y, ty, pos, af, g⟩) (hg : gOk ops E g = some true) (hn : Nat.blt d n = true) (hc : ev E c = some (.bool false)) (hx : ev E y = some v)
    (h : WO P ops Q S rest n ((d, v) :: E) F Φ) : WO P ops Q S ((i, true) :: rest) n E F Φ :=
  WO.yield ho rfl hg hn (fun a hctx w _ => by simp [execOp, hctx.ev hx, hctx.ev hc, asBool]) h
theorem WO.nilCheck {x : Operand} {ad : Addr} (ho : ops[i]? = some ⟨some d, .nilCheck x, ty, pos, af, g⟩) (hg : gOk ops E g = some true) (hn : Nat.blt d n = true) (hx : ev E x = some (.pointer (some ad)))
    (h : WO P ops Q S rest n ((d, .pointer (some ad)) :: E) F Φ) : WO P ops Q S ((i, true) :: rest) n E F Φ :=
  WO.yield ho rfl hg hn (fun a hc w _ => by simp [execOp, hc.ev hx]) h
theorem WO.extract {x : Operand} {k : Nat} {vs : Array Value} {v : Value} (ho : ops[i]? = some ⟨some d, .extract x k, ty, pos, af, g⟩) (hg : gOk ops E g = some true) (hn : Nat.blt d n = true) (hx : ev E x = some (.tuple vs)) (hv : vs[k]? = some v)
    (h : WO P ops Q S rest n ((d, v) :: E) F Φ) : WO P ops Q S ((i, true) :: rest) n E F Φ :=
  WO.yield ho rfl hg hn (fun a hc w _ => by simp [execOp, hc.ev hx, Instr.extract, hv]) h
theorem WO.makeFunc {fn : Fn} {ca : List Operand} {vs : List Value} (ho : ops[i]? = some ⟨some d, .makeFunc fn #[] ca.toArray, ty, pos, af, g⟩) (hg : gOk ops E g = some true) (hn : Nat.blt d n = true) (hx : evs E ca = some vs)
    (h : WO P ops Q S rest n ((d, .func fn #[] vs.toArray) :: E) F Φ) : WO P ops Q S ((i, true) :: rest) n E F Φ :=
  WO.yield ho rfl hg hn (fun a hc w _ => by simp [execOp, Instr.makeFunc, hc.evs hx]) h

def fieldB (P : Program) (s : TypeId) (f fo : Nat) : Bool :=
  match P.underlying s with
  | some (.struct fields) => match fields[f]? with
    | some fd => fd.offset == fo && (match P.info? fd.type with | some i => i.size != 0 | none => false)
    | none => false
  | _ => false
theorem run_fieldAt {s : TypeId} {f fo : Nat} (h : fieldB P s f fo = true) (b o : Nat) (w : World) : (Instr.fieldAt s (.pointer (some ⟨b, o, none⟩)) f).run P w = .ok (.pointer (some ⟨b, o + fo, none⟩)) w := by
  unfold fieldB at h
  split at h
  · rename_i fields hs
    split at h
    · rename_i fd hf
      simp only [Bool.and_eq_true, beq_iff_eq] at h
      obtain ⟨h1, h2⟩ := h
      split at h2
      · rename_i i hi
        have hz : i.size ≠ 0 := by simpa using h2
        simp [Instr.fieldAt, run_underlying hs, hf, Instr.sureAddr, fieldPlace, sizeOf, typeInfo, hi, hz, Addr.add_lit, h1]
      · cases h2
    · cases h
  · cases h
theorem WO.fieldAddr {s : TypeId} {x : Operand} {f b o : Nat} (fo : Nat) (ho : ops[i]? = some ⟨some d, .fieldAddr s x f, ty, pos, af, g⟩) (hg : gOk ops E g = some true) (hn : Nat.blt d n = true) (hx : ev E x = some (.pointer (some ⟨b, o, none⟩))) (hf : fieldB P s f fo = true)
    (h : WO P ops Q S rest n ((d, .pointer (some ⟨b, o + fo, none⟩)) :: E) F Φ) : WO P ops Q S ((i, true) :: rest) n E F Φ :=
  WO.yield ho rfl hg hn (fun a hc w _ => by simp [execOp, hc.ev hx, run_fieldAt hf]) h

/-! ### Loads -/
/-- From an own block. -/
theorem WO.load {t : TypeId} {x : Operand} {b o e : Nat} {cs : List Value} {v : Value} (gi : Nat) (ho : ops[i]? = some ⟨some d, .load t x, ty, pos, af, g⟩) (hg : gOk ops E g = some true) (hn : Nat.blt d n = true) (hx : ev E x = some (.pointer (some ⟨b, o, none⟩)))
    (ht : scalarB P t = true) (hΦ : Φ[gi]? = some [(b, row cs e)]) (hv : cs[o]? = some v) (h : WO P ops Q S rest n ((d, v) :: E) F Φ) : WO P ops Q S ((i, false) :: rest) n E F Φ :=
  WO.val ho rfl hg hn (fun a w hc hs _ => by
    have hm : (b, row cs e) ∈ Φ.flatten := List.mem_flatten.2 ⟨_, List.mem_of_getElem? hΦ, by simp⟩
    have := run_loadAt_scalar (P := P) ht (cell_of (off := o) (hs.mem hm) (by simpa using hv))
    simp [execOp, hc.ev hx, this]) h
theorem WO.loadY {t : TypeId} {x : Operand} {b o e : Nat} {cs : List Value} {v : Value} (gi : Nat) (ho : ops[i]? = some ⟨some d, .load t x, ty, pos, af, g⟩) (hg : gOk ops E g = some true) (hn : Nat.blt d n = true) (hx : ev E x = some (.pointer (some ⟨b, o, none⟩)))
    (ht : scalarB P t = true) (hΦ : Φ0[gi]? = some [(b, row cs e)]) (hv : cs[o]? = some v) (h : WO P ops Q (Sat F0 Φ0) rest n ((d, v) :: E) F Φ) : WO P ops Q (Sat F0 Φ0) ((i, true) :: rest) n E F Φ :=
  WO.yield ho rfl hg hn (fun a hc w hs => by
    have hm : (b, row cs e) ∈ Φ0.flatten := List.mem_flatten.2 ⟨_, List.mem_of_getElem? hΦ, by simp⟩
    have := run_loadAt_scalar (P := P) ht (cell_of (off := o) (hs.mem hm) (by simpa using hv))
    simp [execOp, hc.ev hx, this]) h
theorem part_cells {cs : List Value} {o m : Nat} {j : Nat} {v : Value} (h : ((cs.drop o).take m)[j]? = some v) : cs[o + j]? = some v := by
  rw [List.getElem?_take] at h
  split at h
  · simpa [List.getElem?_drop] using h
  · cases h
theorem WO.loadA {t : TypeId} {x : Operand} {b o e : Nat} {cs vs : List Value} (gi m : Nat) (ho : ops[i]? = some ⟨some d, .load t x, ty, pos, af, g⟩) (hg : gOk ops E g = some true) (hn : Nat.blt d n = true) (hx : ev E x = some (.pointer (some ⟨b, o, none⟩)))
    (ht : aggB P t m = true) (hΦ : Φ[gi]? = some [(b, row cs e)]) (hv : (cs.drop o).take m = vs) (hl : vs.length = m) (h : WO P ops Q S rest n ((d, .agg vs.toArray) :: E) F Φ) : WO P ops Q S ((i, false) :: rest) n E F Φ :=
  WO.val ho rfl hg hn (fun a w hc hs _ => by
    have hm : (b, row cs e) ∈ Φ.flatten := List.mem_flatten.2 ⟨_, List.mem_of_getElem? hΦ, by simp⟩
    have := run_loadAt_agg (P := P) ht hl (b := b) (o := o) (w := w) (fun j v hj => cell_of (hs.mem hm) (by simpa using part_cells (hv ▸ hj)))
    simp [execOp, hc.ev hx, this]) h
theorem WO.loadAY {t : TypeId} {x : Operand} {b o e : Nat} {cs vs : List Value} (gi m : Nat) (ho : ops[i]? = some ⟨some d, .load t x, ty, pos, af, g⟩) (hg : gOk ops E g = some true) (hn : Nat.blt d n = true) (hx : ev E x = some (.pointer (some ⟨b, o, none⟩)))
    (ht : aggB P t m = true) (hΦ : Φ0[gi]? = some [(b, row cs e)]) (hv : (cs.drop o).take m = vs) (hl : vs.length = m) (h : WO P ops Q (Sat F0 Φ0) rest n ((d, .agg vs.toArray) :: E) F Φ) : WO P ops Q (Sat F0 Φ0) ((i, true) :: rest) n E F Φ :=
  WO.yield ho rfl hg hn (fun a hc w hs => by
    have hm : (b, row cs e) ∈ Φ0.flatten := List.mem_flatten.2 ⟨_, List.mem_of_getElem? hΦ, by simp⟩
    have := run_loadAt_agg (P := P) ht hl (b := b) (o := o) (w := w) (fun j v hj => cell_of (hs.mem hm) (by simpa using part_cells (hv ▸ hj)))
    simp [execOp, hc.ev hx, this]) h
/-- From cells that nobody writes. -/
theorem WO.loadP {t : TypeId} {x : Operand} {b o p : Nat} {cs : List Value} {v : Value} (fo : Nat) (hp : Cells F0 b o cs) (ho : ops[i]? = some ⟨some d, .load t x, ty, pos, af, g⟩) (hg : gOk ops E g = some true) (hn : Nat.blt d n = true) (hx : ev E x = some (.pointer (some ⟨b, p, none⟩)))
    (hpo : p = o + fo) (ht : scalarB P t = true) (hv : cs[fo]? = some v) (h : WO P ops Q (Sat F0 Φ0) rest n ((d, v) :: E) F Φ) : WO P ops Q (Sat F0 Φ0) ((i, true) :: rest) n E F Φ :=
  WO.yield ho rfl hg hn (fun a hc w hs => by
    subst hpo
    simp [execOp, hc.ev hx, run_loadAt_scalar (P := P) ht (Cells.cell hs hp hv)]) h
theorem WO.loadPn {t : TypeId} {x : Operand} {b o p : Nat} {cs : List Value} {v : Value} (fo : Nat) (hp : Cells F b o cs) (ho : ops[i]? = some ⟨some d, .load t x, ty, pos, af, g⟩) (hg : gOk ops E g = some true) (hn : Nat.blt d n = true) (hx : ev E x = some (.pointer (some ⟨b, p, none⟩)))
    (hpo : p = o + fo) (ht : scalarB P t = true) (hv : cs[fo]? = some v) (h : WO P ops Q S rest n ((d, v) :: E) F Φ) : WO P ops Q S ((i, false) :: rest) n E F Φ :=
  WO.val ho rfl hg hn (fun a w hc hs _ => by
    subst hpo
    simp [execOp, hc.ev hx, run_loadAt_scalar (P := P) ht (Cells.cell hs hp hv)]) h
theorem WO.loadPA {t : TypeId} {x : Operand} {b o p : Nat} {cs vs : List Value} (fo m : Nat) (hp : Cells F0 b o cs) (ho : ops[i]? = some ⟨some d, .load t x, ty, pos, af, g⟩) (hg : gOk ops E g = some true) (hn : Nat.blt d n = true) (hx : ev E x = some (.pointer (some ⟨b, p, none⟩)))
    (hpo : p = o + fo) (ht : aggB P t m = true) (hv : (cs.drop fo).take m = vs) (hl : vs.length = m) (h : WO P ops Q (Sat F0 Φ0) rest n ((d, .agg vs.toArray) :: E) F Φ) : WO P ops Q (Sat F0 Φ0) ((i, true) :: rest) n E F Φ :=
  WO.yield ho rfl hg hn (fun a hc w hs => by
    subst hpo
    have := run_loadAt_agg (P := P) ht hl (b := b) (o := o + fo) (w := w) (fun j v hj => by rw [Nat.add_assoc]; exact Cells.cell hs hp (part_cells (hv ▸ hj)))
    simp [execOp, hc.ev hx, this]) h
theorem WO.loadPAn {t : TypeId} {x : Operand} {b o p : Nat} {cs vs : List Value} (fo m : Nat) (hp : Cells F b o cs) (ho : ops[i]? = some ⟨some d, .load t x, ty, pos, af, g⟩) (hg : gOk ops E g = some true) (hn : Nat.blt d n = true) (hx : ev E x = some (.pointer (some ⟨b, p, none⟩)))
    (hpo : p = o + fo) (ht : aggB P t m = true) (hv : (cs.drop fo).take m = vs) (hl : vs.length = m) (h : WO P ops Q S rest n ((d, .agg vs.toArray) :: E) F Φ) : WO P ops Q S ((i, false) :: rest) n E F Φ :=
  WO.val ho rfl hg hn (fun a w hc hs _ => by
    subst hpo
    have := run_loadAt_agg (P := P) ht hl (b := b) (o := o + fo) (w := w) (fun j v hj => by rw [Nat.add_assoc]; exact Cells.cell hs hp (part_cells (hv ▸ hj)))
    simp [execOp, hc.ev hx, this]) h

/-! ### Whole numbers and truths -/
theorem WO.binV {op : BinOp} {xt yt : TypeId} {x y : Operand} {v u r : Value} (ho : ops[i]? = some ⟨some d, .binOp op xt x y yt, ty, pos, af, g⟩) (hg : gOk ops E g = some true) (hn : Nat.blt d n = true) (hx : ev E x = some v) (hy : ev E y = some u)
    (hgd : ∀ w, (eqGuard op xt x y v u).run P w = .ok () w) (hr : ∀ w, (binOp op xt v u).run P w = .ok r w) (h : WO P ops Q S rest n ((d, r) :: E) F Φ) : WO P ops Q S ((i, true) :: rest) n E F Φ :=
  WO.yield ho rfl hg hn (fun a hc w _ => by simp [execOp, hc.ev hx, hc.ev hy, hgd, hr]) h

/-- What an operation on two whole numbers of one kind comes to; none: it has a rule of its own. -/
def arith (op : BinOp) (k : IntKind) (x y : Int) : Option Value :=
  match op with
  | .add => some (.int k (k.wrap (x + y)))
  | .sub => some (.int k (k.wrap (x - y)))
  | .mul => some (.int k (k.wrap (x * y)))
  | .and => some (.int k (Go.bits .and k x y))
  | .or => some (.int k (Go.bits .or k x y))
  | .xor => some (.int k (Go.bits .xor k x y))
  | .andNot => some (.int k (Go.bits .andNot k x y))
  | .eql => some (.bool (x == y))
  | .neq => some (.bool (x != y))
  | .lss => some (.bool (decide (x < y)))
  | .leq => some (.bool (decide (x ≤ y)))
  | .gtr => some (.bool (decide (x > y)))
  | .geq => some (.bool (decide (x ≥ y)))
  | _ => none
theorem run_arith {op : BinOp} {k : IntKind} {x y : Int} {v : Value} (h : arith op k x y = some v) (t : TypeId) (w : World) : (binOp op t (.int k x) (.int k y)).run P w = .ok v w := by
  cases op <;> simp only [arith] at h <;> try cases h
  all_goals simp [binOp, Op.intArith, Op.intBits, Op.intCmp, Go.bits]
theorem WO.bin {op : BinOp} {xt yt : TypeId} {x y : Operand} {k : IntKind} {p q : Int} {r : Value} (ho : ops[i]? = some ⟨some d, .binOp op xt x y yt, ty, pos, af, g⟩) (hg : gOk ops E g = some true) (hn : Nat.blt d n = true) (hx : ev E x = some (.int k p)) (hy : ev E y = some (.int k q))
    (hr : arith op k p q = some r) (h : WO P ops Q S rest n ((d, r) :: E) F Φ) : WO P ops Q S ((i, true) :: rest) n E F Φ :=
  WO.binV ho hg hn hx hy (fun w => by rw [eqGuard_at_int]; rfl) (run_arith hr xt) h
theorem WO.quo {xt yt : TypeId} {x y : Operand} {k : IntKind} {p q : Int} (h0 : q ≠ 0) (ho : ops[i]? = some ⟨some d, .binOp .quo xt x y yt, ty, pos, af, g⟩) (hg : gOk ops E g = some true) (hn : Nat.blt d n = true) (hx : ev E x = some (.int k p)) (hy : ev E y = some (.int k q))
    (h : WO P ops Q S rest n ((d, .int k (k.wrap (p.tdiv q))) :: E) F Φ) : WO P ops Q S ((i, true) :: rest) n E F Φ :=
  WO.binV ho hg hn hx hy (fun w => by rw [eqGuard_at_int]; rfl) (fun w => by simp [binOp, Op.intDiv, h0]) h
theorem WO.rem {xt yt : TypeId} {x y : Operand} {k : IntKind} {p q : Int} (h0 : q ≠ 0) (ho : ops[i]? = some ⟨some d, .binOp .rem xt x y yt, ty, pos, af, g⟩) (hg : gOk ops E g = some true) (hn : Nat.blt d n = true) (hx : ev E x = some (.int k p)) (hy : ev E y = some (.int k q))
    (h : WO P ops Q S rest n ((d, .int k (p.tmod q)) :: E) F Φ) : WO P ops Q S ((i, true) :: rest) n E F Φ :=
  WO.binV ho hg hn hx hy (fun w => by rw [eqGuard_at_int]; rfl) (fun w => by simp [binOp, Op.intDiv, h0]) h
/-- A shift down, up. -/
def shrI (k : IntKind) (x y : Int) : Int := x.fdiv (2 ^ min y.toNat k.bits)
def shlI (k : IntKind) (x y : Int) : Int := k.wrap (x * 2 ^ min y.toNat k.bits)
theorem WO.shr {xt yt : TypeId} {x y : Operand} {k k' : IntKind} {p q : Int} (h0 : 0 ≤ q) (ho : ops[i]? = some ⟨some d, .binOp .shr xt x y yt, ty, pos, af, g⟩) (hg : gOk ops E g = some true) (hn : Nat.blt d n = true) (hx : ev E x = some (.int k p)) (hy : ev E y = some (.int k' q))
    (h : WO P ops Q S rest n ((d, .int k (shrI k p q)) :: E) F Φ) : WO P ops Q S ((i, true) :: rest) n E F Φ :=
  WO.binV ho hg hn hx hy (fun w => by rw [eqGuard_at_int]; rfl) (fun w => by
    have : ¬ q < 0 := by omega
    simp [binOp, Op.shift, this, shrI]) h
theorem WO.shl {xt yt : TypeId} {x y : Operand} {k k' : IntKind} {p q : Int} (h0 : 0 ≤ q) (ho : ops[i]? = some ⟨some d, .binOp .shl xt x y yt, ty, pos, af, g⟩) (hg : gOk ops E g = some true) (hn : Nat.blt d n = true) (hx : ev E x = some (.int k p)) (hy : ev E y = some (.int k' q))
    (h : WO P ops Q S rest n ((d, .int k (shlI k p q)) :: E) F Φ) : WO P ops Q S ((i, true) :: rest) n E F Φ :=
  WO.binV ho hg hn hx hy (fun w => by rw [eqGuard_at_int]; rfl) (fun w => by
    have : ¬ q < 0 := by omega
    simp [binOp, Op.shift, this, shlI]) h
theorem run_equalIn_bool {t : TypeId} (ht : P.underlying t = some .bool) (k : Nat) (p q : Bool) (w : World) : (Op.equalIn (k + 1) t (.bool p) (.bool q)).run P w = .ok (p == q) w := by
  simp [Op.equalIn, run_underlying ht]
theorem run_equalIn_nil {t e : TypeId} (ht : P.underlying t = some (.pointer e)) (k : Nat) (p : Option Addr) (w : World) : (Op.equalIn (k + 1) t (.pointer p) (.pointer none)).run P w = .ok p.isNone w := by
  cases p <;> simp [Op.equalIn, run_underlying ht]
theorem binOp_eqlV {b : Bool} (t : TypeId) (x y : Value) (h : ∀ w, (Op.equalIn (9999 + 1) t x y).run P w = .ok b w) (hi : binOp .eql t x y = (do pure (.bool (← Op.equal t x y)))) (w : World) : (binOp .eql t x y).run P w = .ok (.bool b) w := by
  rw [hi, Sem.run_bind]
  have h' : (Op.equal t x y).run P w = .ok b w := h w
  rw [h']; rfl
theorem binOp_neqV {b : Bool} (t : TypeId) (x y : Value) (h : ∀ w, (Op.equalIn (9999 + 1) t x y).run P w = .ok b w) (hi : binOp .neq t x y = (do pure (.bool (!(← Op.equal t x y))))) (w : World) : (binOp .neq t x y).run P w = .ok (.bool (!b)) w := by
  rw [hi, Sem.run_bind]
  have h' : (Op.equal t x y).run P w = .ok b w := h w
  rw [h']; rfl
/-- Truths, held against each other. -/
theorem WO.eqB {xt yt : TypeId} {x y : Operand} {p q : Bool} (ho : ops[i]? = some ⟨some d, .binOp .eql xt x y yt, ty, pos, af, g⟩) (hg : gOk ops E g = some true) (hn : Nat.blt d n = true) (hx : ev E x = some (.bool p)) (hy : ev E y = some (.bool q)) (ht : P.underlying xt = some .bool)
    (h : WO P ops Q S rest n ((d, .bool (p == q)) :: E) F Φ) : WO P ops Q S ((i, true) :: rest) n E F Φ :=
  WO.binV ho hg hn hx hy (fun w => by rw [eqGuard_at_bool]; rfl) (binOp_eqlV _ _ _ (fun w => run_equalIn_bool ht _ p q w) rfl) h
theorem WO.neB {xt yt : TypeId} {x y : Operand} {p q : Bool} (ho : ops[i]? = some ⟨some d, .binOp .neq xt x y yt, ty, pos, af, g⟩) (hg : gOk ops E g = some true) (hn : Nat.blt d n = true) (hx : ev E x = some (.bool p)) (hy : ev E y = some (.bool q)) (ht : P.underlying xt = some .bool)
    (h : WO P ops Q S rest n ((d, .bool (p != q)) :: E) F Φ) : WO P ops Q S ((i, true) :: rest) n E F Φ :=
  WO.binV ho hg hn hx hy (fun w => by rw [eqGuard_at_bool]; rfl) (binOp_neqV _ _ _ (fun w => run_equalIn_bool ht _ p q w) rfl) h
/-- A pointer, held against nil. -/
theorem WO.eqNil {xt yt e : TypeId} {x y : Operand} {p : Option Addr} (ho : ops[i]? = some ⟨some d, .binOp .eql xt x y yt, ty, pos, af, g⟩) (hg : gOk ops E g = some true) (hn : Nat.blt d n = true) (hx : ev E x = some (.pointer p)) (hy : ev E y = some (.pointer none)) (ht : P.underlying xt = some (.pointer e))
    (h : WO P ops Q S rest n ((d, .bool p.isNone) :: E) F Φ) : WO P ops Q S ((i, true) :: rest) n E F Φ :=
  WO.binV ho hg hn hx hy (fun w => by rw [eqGuard_at_pointer]; rfl) (binOp_eqlV _ _ _ (fun w => run_equalIn_nil ht _ p w) rfl) h
theorem WO.neNil {xt yt e : TypeId} {x y : Operand} {p : Option Addr} (ho : ops[i]? = some ⟨some d, .binOp .neq xt x y yt, ty, pos, af, g⟩) (hg : gOk ops E g = some true) (hn : Nat.blt d n = true) (hx : ev E x = some (.pointer p)) (hy : ev E y = some (.pointer none)) (ht : P.underlying xt = some (.pointer e))
    (h : WO P ops Q S rest n ((d, .bool !p.isNone) :: E) F Φ) : WO P ops Q S ((i, true) :: rest) n E F Φ :=
  WO.binV ho hg hn hx hy (fun w => by rw [eqGuard_at_pointer]; rfl) (binOp_neqV _ _ _ (fun w => run_equalIn_nil ht _ p w) rfl) h

def unary1 (op : UnOp) (v : Value) : Option Value :=
  match op, v with
  | .neg, .int k x => some (.int k (k.wrap (0 - x)))
  | .not, .bool b => some (.bool !b)
  | .xor, .int k x => some (.int k (Go.bits .xor k (if k.signed then -1 else k.max) x))
  | _, _ => none
theorem WO.un {op : UnOp} {xt : TypeId} {x : Operand} {v r : Value} (ho : ops[i]? = some ⟨some d, .unOp op xt x, ty, pos, af, g⟩) (hg : gOk ops E g = some true) (hn : Nat.blt d n = true) (hx : ev E x = some v) (hr : unary1 op v = some r)
    (h : WO P ops Q S rest n ((d, r) :: E) F Φ) : WO P ops Q S ((i, true) :: rest) n E F Φ :=
  WO.yield ho rfl hg hn (fun a hc w _ => by
    have : (Op.unary op v).run P w = .ok r w := by
      unfold unary1 at hr
      split at hr <;> cases hr <;> simp [Op.unary, Op.intArith, Op.intBits, Go.bits]
    simp [execOp, hc.ev hx, this]) h
def kindB (P : Program) (t : TypeId) (k : IntKind) : Bool := match P.underlying t with | some (.int k') => k' == k | _ => false
theorem kindB_eq {t : TypeId} {k : IntKind} (h : kindB P t k = true) : P.underlying t = some (.int k) := by
  unfold kindB at h
  split at h
  · rename_i k' hk; simp only [beq_iff_eq] at h; rw [hk, h]
  · cases h
theorem WO.conv {src dst : TypeId} {x : Operand} {k : IntKind} {p : Int} (k' : IntKind) (ho : ops[i]? = some ⟨some d, .convert src dst x, ty, pos, af, g⟩) (hg : gOk ops E g = some true) (hn : Nat.blt d n = true) (hx : ev E x = some (.int k p)) (hs : kindB P src k = true) (hd : kindB P dst k' = true)
    (h : WO P ops Q S rest n ((d, .int k' (k'.wrap p)) :: E) F Φ) : WO P ops Q S ((i, true) :: rest) n E F Φ :=
  WO.yield ho rfl hg hn (fun a hc w _ => by
    have : (convert src dst (.int k p)).run P w = .ok (.int k' (k'.wrap p)) w := by
      simp [convert, run_underlying (kindB_eq hs), run_underlying (kindB_eq hd), Conv.intToInt]
    simp [execOp, hc.ev hx, this]) h

/-! ### Built-in calls that only yield -/
theorem run_builtin {d : Option Nat} (b : Builtin) (xs : List Operand) (tys : Array TypeId) (a : Act) (vs : List Value) (hvs : xs.map a.eval = vs) (w : World) :
    ∃ cs, (execOp a.eval ⟨d, .call ⟨.builtin b, xs.toArray, tys⟩, ty, pos, af, g⟩).run P w = (builtin b tys ty cs vs.toArray).run P w :=
  ⟨_, by simp [execOp, resolve, invoke, hvs]; rfl⟩
theorem WO.len {x : Operand} {t e : TypeId} {ad : Option Addr} {l c : Nat} (ho : ops[i]? = some ⟨some d, .call ⟨.builtin .len, #[x], #[t]⟩, ty, pos, af, g⟩) (hg : gOk ops E g = some true) (hn : Nat.blt d n = true) (hx : ev E x = some (.slice ad l c)) (ht : P.underlying t = some (.slice e))
    (h : WO P ops Q S rest n ((d, .int .i64 l) :: E) F Φ) : WO P ops Q S ((i, true) :: rest) n E F Φ :=
  WO.yield ho rfl hg hn (fun a hc w _ => by
    obtain ⟨cs, hb⟩ := run_builtin (P := P) (d := some d) (ty := ty) (pos := pos) (af := af) (g := g) .len [x] #[t] a [.slice ad l c] (by simp [hc.ev hx]) w
    rw [hb]
    simp [builtin, Builtin.len_, run_underlying ht, goInt]) h
theorem WO.max2 {x y : Operand} {tys} {k : IntKind} {p q : Int} (ho : ops[i]? = some ⟨some d, .call ⟨.builtin .max, #[x, y], tys⟩, ty, pos, af, g⟩) (hg : gOk ops E g = some true) (hn : Nat.blt d n = true) (hx : ev E x = some (.int k p)) (hy : ev E y = some (.int k q))
    (h : WO P ops Q S rest n ((d, .int k (if q > p then q else p)) :: E) F Φ) : WO P ops Q S ((i, true) :: rest) n E F Φ :=
  WO.yield ho rfl hg hn (fun a hc w _ => by
    obtain ⟨cs, hb⟩ := run_builtin (P := P) (d := some d) (ty := ty) (pos := pos) (af := af) (g := g) .max [x, y] tys a [.int k p, .int k q] (by simp [hc.ev hx, hc.ev hy]) w
    rw [hb]
    simp [builtin, Builtin.max_, Builtin.max2]) h
theorem WO.min2 {x y : Operand} {tys} {k : IntKind} {p q : Int} (ho : ops[i]? = some ⟨some d, .call ⟨.builtin .min, #[x, y], tys⟩, ty, pos, af, g⟩) (hg : gOk ops E g = some true) (hn : Nat.blt d n = true) (hx : ev E x = some (.int k p)) (hy : ev E y = some (.int k q))
    (h : WO P ops Q S rest n ((d, .int k (if q < p then q else p)) :: E) F Φ) : WO P ops Q S ((i, true) :: rest) n E F Φ :=
  WO.yield ho rfl hg hn (fun a hc w _ => by
    obtain ⟨cs, hb⟩ := run_builtin (P := P) (d := some d) (ty := ty) (pos := pos) (af := af) (g := g) .min [x, y] tys a [.int k p, .int k q] (by simp [hc.ev hx, hc.ev hy]) w
    rw [hb]
    simp [builtin, Builtin.min_, Builtin.min2]) h
end
end Go.Pel

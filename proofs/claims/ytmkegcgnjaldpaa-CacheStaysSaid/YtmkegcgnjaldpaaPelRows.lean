/- Memory that is made and written; slices that are read, slices that are the call's own. -/
import Derived.Test.YtmkegcgnjaldpaaPelOps
namespace Go.Pel
open Go.RowKit

theorem Sat.regroup {F : Mem} {Φ : List (List Chunk)} {w w' : World} (h : Sat F Φ w) {g : Nat} {ψ ψ' : List Chunk} (hg : Φ[g]? = some ψ)
    (ho : w'.os = w.os) (ht : w'.tape = w.tape) (hu : w'.output = w.output) (hsz : w.heap.size ≤ w'.heap.size)
    (hother : ∀ k, k < w.heap.size → (∀ o, (k, o) ∉ ψ) → w'.heap[k]? = w.heap[k]?)
    (hψ : ∀ c ∈ ψ', w'.heap[c.1]? = some c.2 ∧ (c.1 ∈ ψ.map (·.1) ∨ w.heap.size ≤ c.1)) (hnd : (ψ'.map (·.1)).Nodup) : Sat F (Φ.set g ψ') w' := by
  have hglt : g < Φ.length := by
    rcases Nat.lt_or_ge g Φ.length with hl | hl
    · exact hl
    · rw [List.getElem?_eq_none hl] at hg; cases hg
  have hget : Φ[g] = ψ := by simpa [List.getElem?_eq_getElem hglt] using hg
  have hBw : F.B ≤ w.heap.size := Nat.le_trans h.base h.below.size
  obtain ⟨A, C, hA⟩ : ∃ A C, Φ.flatten = A ++ ψ ++ C ∧ (Φ.set g ψ').flatten = A ++ ψ' ++ C := by
    refine ⟨(Φ.take g).flatten, (Φ.drop (g + 1)).flatten, ?_, ?_⟩
    · conv => lhs; rw [← List.take_append_drop g Φ, List.drop_eq_getElem_cons hglt, hget]
      simp
    · rw [List.set_eq_take_append_cons_drop, if_pos hglt]; simp
  obtain ⟨hA, hA'⟩ := hA
  have hnd0 := h.nodup
  rw [hA] at hnd0
  have hkey : ∀ c, c ∈ F.pool ++ A ∨ c ∈ C → (∀ o, (c.1, o) ∉ ψ) := by
    intro c hc o hmem
    have hp : (F.pool ++ (A ++ ψ ++ C)).Perm (ψ ++ ((F.pool ++ A) ++ C)) := by
      rw [List.append_assoc A, ← List.append_assoc F.pool]
      refine List.perm_append_comm.trans ?_
      rw [List.append_assoc ψ]
      exact List.Perm.append_left ψ (List.perm_append_comm)
    have hn2 := (hp.map (·.1)).nodup_iff.1 hnd0
    rw [List.map_append, List.nodup_append] at hn2
    refine hn2.2.2 c.1 (List.mem_map.2 ⟨_, hmem, rfl⟩) c.1 (List.mem_map.2 ⟨c, ?_, rfl⟩) rfl
    rcases hc with hc | hc
    · exact List.mem_append_left _ hc
    · exact List.mem_append_right _ hc
  have hold : ∀ c, c ∈ F.pool ++ A ∨ c ∈ C → F.B ≤ c.1 ∧ w.heap[c.1]? = some c.2 ∧ c.1 < w.heap.size := by
    intro c hc
    have hm : c ∈ F.pool ++ Φ.flatten := by
      rw [hA]
      simp only [List.mem_append] at hc ⊢
      rcases hc with (hc | hc) | hc
      · exact .inl hc
      · exact .inr (.inl (.inl hc))
      · exact .inr (.inr hc)
    exact ⟨(h.cells c hm).1, (h.cells c hm).2, h.lt hm⟩
  have hψB : ∀ k, k ∈ ψ.map (·.1) → F.B ≤ k := by
    intro k hk
    obtain ⟨c, hc, rfl⟩ := List.mem_map.1 hk
    exact (h.cells c (by rw [hA]; simp [hc])).1
  refine ⟨⟨ho.trans h.below.os, ht.trans h.below.tape, hu.trans h.below.output, Nat.le_trans h.below.size hsz, fun k hk => ?_⟩, h.base, ?_, fun c hc => ?_⟩
  · rw [hother k (by omega) (fun o hm => ?_)]
    · exact h.below.block k hk
    · have := hψB k (List.mem_map.2 ⟨_, hm, rfl⟩)
      omega
  · rw [hA']
    have hp : (F.pool ++ (A ++ ψ' ++ C)).Perm (ψ' ++ ((F.pool ++ A) ++ C)) := by
      rw [List.append_assoc A, ← List.append_assoc F.pool]
      refine List.perm_append_comm.trans ?_
      rw [List.append_assoc ψ']
      exact List.Perm.append_left ψ' (List.perm_append_comm)
    have hp0 : (F.pool ++ (A ++ ψ ++ C)).Perm (ψ ++ ((F.pool ++ A) ++ C)) := by
      rw [List.append_assoc A, ← List.append_assoc F.pool]
      refine List.perm_append_comm.trans ?_
      rw [List.append_assoc ψ]
      exact List.Perm.append_left ψ (List.perm_append_comm)
    rw [(hp.map _).nodup_iff]
    have hn2 := (hp0.map (·.1)).nodup_iff.1 hnd0
    rw [List.map_append, List.nodup_append] at hn2 ⊢
    refine ⟨hnd, hn2.2.1, fun x hx y hy e => ?_⟩
    subst e
    obtain ⟨c, hc, rfl⟩ := List.mem_map.1 hx
    rcases (hψ c hc).2 with hin | hge
    · exact hn2.2.2 _ hin _ hy rfl
    · obtain ⟨c', hc', e'⟩ := List.mem_map.1 hy
      have hc'' : c' ∈ F.pool ++ A ∨ c' ∈ C := List.mem_append.1 hc'
      have := (hold c' hc'').2.2
      omega
  · rw [hA'] at hc
    simp only [List.mem_append] at hc
    have old : ∀ c, c ∈ F.pool ++ A ∨ c ∈ C → F.B ≤ c.1 ∧ w'.heap[c.1]? = some c.2 := fun c hc =>
      have ⟨h1, h2, h3⟩ := hold c hc
      ⟨h1, by rw [hother c.1 h3 (hkey c hc)]; exact h2⟩
    rcases hc with hc | (hc | hc) | hc
    · exact old c (.inl (by simp [hc]))
    · exact old c (.inl (by simp [hc]))
    · have ⟨h1, h2⟩ := hψ c hc
      refine ⟨?_, h1⟩
      rcases h2 with h2 | h2
      · exact hψB _ h2
      · omega
    · exact old c (.inr hc)

/-! ### New memory -/
def zeroB (P : Program) (t : TypeId) (v : Value) : Prop := (P.info? t).bind (·.zero) = some v
theorem run_zeroValue {P : Program} {t : TypeId} {v : Value} (h : zeroB P t v) (w : World) : (zeroValue t).run P w = .ok v w := by
  unfold zeroB at h
  cases hi : P.info? t with
  | none => rw [hi] at h; cases h
  | some i =>
    rw [hi] at h
    simp only [Option.bind_some] at h
    simp [zeroValue, typeInfo, hi, h]

section
variable {P : Program} {ops : Array Oper} {Q : Post} {S : World → Prop} {n : Nat} {E : Env} {F F0 : Mem} {Φ Φ0 : List (List Chunk)}
variable {i d ty : Nat} {pos : String} {af : Array Edge} {g : Option (Nat × Bool)} {rest : List (Nat × Bool)}

theorem newRow_run (t : TypeId) (c : Array Value) (w : World) : (newRow t c).run P w = .ok ⟨w.heap.size, 0, none⟩ { w with heap := w.heap.push (.cells c t) } := by
  simp [newRow]
theorem WO.alloc {t : TypeId} {zs : List Value} (z : Value) (ho : ops[i]? = some ⟨some d, .alloc t, ty, pos, af, g⟩) (hg : gOk ops E g = some true) (hn : Nat.blt d n = true) (hz : zeroB P t z) (hzs : z.cells = zs.toArray)
    (hS : ∀ b w, Sat F ([(b, row zs t)] :: Φ) w → S w) (h : ∀ b, WO P ops Q S rest n ((d, .pointer (some ⟨b, 0, none⟩)) :: E) F ([(b, row zs t)] :: Φ)) : WO P ops Q S ((i, false) :: rest) n E F Φ :=
  WO.valW ho rfl hg hn fun a w hc hs _ => by
    have hs' := hs.alloc (row zs t)
    refine ⟨_, _, F, _, ?_, hs', hS _ _ hs', h w.heap.size⟩
    simp [execOp, Instr.alloc, run_zeroValue hz, newVar, newRow_run, hzs]
theorem WO.box {t : TypeId} {x : Operand} {v : Value} {vs : List Value} (ho : ops[i]? = some ⟨some d, .box t x, ty, pos, af, g⟩) (hg : gOk ops E g = some true) (hn : Nat.blt d n = true) (hx : ev E x = some v) (hvs : v.cells = vs.toArray)
    (hS : ∀ b w, Sat F ([(b, row vs t)] :: Φ) w → S w) (h : ∀ b, WO P ops Q S rest n ((d, .pointer (some ⟨b, 0, none⟩)) :: E) F ([(b, row vs t)] :: Φ)) : WO P ops Q S ((i, false) :: rest) n E F Φ :=
  WO.valW ho rfl hg hn fun a w hc hs _ => by
    have hs' := hs.alloc (row vs t)
    refine ⟨_, _, F, _, ?_, hs', hS _ _ hs', h w.heap.size⟩
    simp [execOp, hc.ev hx, Instr.box, newVar, newRow_run, hvs]
theorem WO.buildSlice {t e : TypeId} {len : Nat} {parts : Array (Nat × Operand)} {vs : List Value} (ho : ops[i]? = some ⟨some d, .buildSlice t len parts, ty, pos, af, g⟩) (hg : gOk ops E g = some true) (hn : Nat.blt d n = true)
    (hb : ∀ a, Ctx n E a → ∀ w, (Instr.buildSlice t len (parts.map fun (i, x) => (i, a.eval x))).run P w = .ok (.slice (some ⟨w.heap.size, 0, none⟩) len len) { w with heap := w.heap.push (row vs e) })
    (hS : ∀ b w, Sat F ([(b, row vs e)] :: Φ) w → S w) (h : ∀ b, WO P ops Q S rest n ((d, .slice (some ⟨b, 0, none⟩) len len) :: E) F ([(b, row vs e)] :: Φ)) : WO P ops Q S ((i, false) :: rest) n E F Φ :=
  WO.valW ho rfl hg hn fun a w hc hs _ => by
    have hs' := hs.alloc (row vs e)
    refine ⟨_, _, F, _, ?_, hs', hS _ _ hs', h w.heap.size⟩
    simp [execOp, hb a hc]

/-! ### Stores -/
theorem run_storeAt_scalar {t : TypeId} (hsz : sizeB P t 1 = true) {w : World} {b o : Nat} {v u : Value} (hv : v.oneCell' = true) (hc : w.cell? ⟨b, o, none⟩ = some u) (hf : w.frozen? ⟨b, o, none⟩ = false) :
    (Instr.storeAt t (.pointer (some ⟨b, o, none⟩)) v).run P w = .ok () (w.setCell ⟨b, o, none⟩ v) := by
  have hcs : v.cells = #[v] := by cases v <;> first | rfl | (simp [Value.oneCell'] at hv)
  simp [Instr.storeAt, Instr.sureAddr, storeVar, run_sizeOf hsz, hcs, storeCells, addr_add, run_store _ _ _ _ _ hv, hc, hf]
theorem WO.store {t : TypeId} {x y : Operand} {b o e : Nat} {cs : List Value} {v u : Value} (gi : Nat) (ho : ops[i]? = some ⟨none, .store t x y, ty, pos, af, g⟩) (hg : gOk ops E g = some true) (hx : ev E x = some (.pointer (some ⟨b, o, none⟩))) (hy : ev E y = some v)
    (hsz : sizeB P t 1 = true) (hv : v.oneCell' = true) (hΦ : Φ[gi]? = some [(b, row cs e)]) (hu : cs[o]? = some u)
    (hS : ∀ w, Sat F (Φ.set gi [(b, row (cs.set o v) e)]) w → S w) (h : WO P ops Q S rest n E F (Φ.set gi [(b, row (cs.set o v) e)])) : WO P ops Q S ((i, false) :: rest) n E F Φ :=
  WO.unitW ho rfl hg fun a w hc hs _ => by
    have hm : (b, row cs e) ∈ Φ.flatten := List.mem_flatten.2 ⟨_, List.mem_of_getElem? hΦ, by simp⟩
    have hs' := hs.setCell (off := o) hΦ v
    have he : cs.toArray.setIfInBounds o v = (cs.set o v).toArray := by simp
    rw [he] at hs'
    refine ⟨_, F, _, ?_, hs', hS _ hs', h⟩
    have := run_storeAt_scalar (P := P) hsz hv (cell_of (off := o) (hs.mem hm) (by simpa using hu)) (by simp [World.frozen?, hs.mem hm])
    simp [execOp, hc.ev hx, hc.ev hy, this]
def splice (cs : List Value) (o : Nat) (vs : List Value) : List Value := cs.take o ++ vs ++ cs.drop (o + vs.length)
theorem WO.storeA {t : TypeId} {x y : Operand} {b o e : Nat} {cs vs : List Value} (gi m : Nat) (ho : ops[i]? = some ⟨none, .store t x y, ty, pos, af, g⟩) (hg : gOk ops E g = some true) (hx : ev E x = some (.pointer (some ⟨b, o, none⟩))) (hy : ev E y = some (.agg vs.toArray))
    (hsz : sizeB P t m = true) (hl : vs.length = m) (hv : vs.all Value.oneCell' = true) (hΦ : Φ[gi]? = some [(b, row cs e)]) (hu : (decide (o + m ≤ cs.length)) = true)
    (hS : ∀ w, Sat F (Φ.set gi [(b, row (splice cs o vs) e)]) w → S w) (h : WO P ops Q S rest n E F (Φ.set gi [(b, row (splice cs o vs) e)])) : WO P ops Q S ((i, false) :: rest) n E F Φ :=
  WO.unitW ho rfl hg fun a w hc hs _ => by
    have hm : (b, row cs e) ∈ Φ.flatten := List.mem_flatten.2 ⟨_, List.mem_of_getElem? hΦ, by simp⟩
    have hb := hs.mem hm
    have hlen : o + vs.length ≤ cs.length := by rw [hl]; exact of_decide_eq_true hu
    have hr := run_storeCells_at P b o e vs 0 cs.toArray w hb (by simpa using hlen) (fun v hv' => by simpa using List.all_eq_true.1 hv v hv')
    simp only [Nat.add_zero] at hr
    have hs' : Sat F (Φ.set gi [(b, row (splice cs o vs) e)]) (w.setRow b (cs.toArray.toList.take o ++ vs ++ cs.toArray.toList.drop (o + vs.length)).toArray) := by
      refine hs.put hΦ (o' := row (splice cs o vs) e) ?_ (fun k hk => setRow_other _ _ _ _ hk) (by simp) rfl rfl rfl
      rw [setRow_heap w b cs.toArray _ e _ hb]
      rfl
    refine ⟨_, F, _, ?_, hs', hS _ hs', h⟩
    simp [execOp, hc.ev hx, hc.ev hy, Instr.storeAt, Instr.sureAddr, storeVar, run_sizeOf hsz, hl, Value.cells, hr]
end

/-! ### Slices -/
variable {X Y : Type}

/-- Cells, 'sz' at a time, that tell the list 'xs'. -/
def Rs (sz : Nat) (R : Mem → List Value → X → Prop) (F : Mem) (gs : List (List Value)) (xs : List X) : Prop :=
  gs.length = xs.length ∧ ∀ (j : Nat) (cs : List Value) (x : X), gs[j]? = some cs → xs[j]? = some x → cs.length = sz ∧ R F cs x ∧ cs.all Value.oneCell' = true

def Mono (R : Mem → List Value → X → Prop) : Prop := ∀ (F G : Mem) (cs : List Value) (x : X), F.le G → R F cs x → R G cs x

theorem Rs.mono {sz} {R : Mem → List Value → X → Prop} (hR : Mono R) {F G : Mem} (h : F.le G) {gs xs} (k : Rs sz R F gs xs) : Rs sz R G gs xs :=
  ⟨k.1, fun j cs x h1 h2 => ⟨(k.2 j cs x h1 h2).1, hR _ _ _ _ h (k.2 j cs x h1 h2).2.1, (k.2 j cs x h1 h2).2.2⟩⟩
theorem Rs.nil {sz} {R : Mem → List Value → X → Prop} {F : Mem} : Rs sz R F [] [] := ⟨rfl, fun j cs x h => by simp at h⟩
theorem Rs.append {sz} {R : Mem → List Value → X → Prop} {F : Mem} {gs gs' xs xs'} (h : Rs sz R F gs xs) (k : Rs sz R F gs' xs') : Rs sz R F (gs ++ gs') (xs ++ xs') := by
  refine ⟨by simp [h.1, k.1], fun j cs x h1 h2 => ?_⟩
  rcases Nat.lt_or_ge j gs.length with hj | hj
  · rw [List.getElem?_append_left hj] at h1
    rw [List.getElem?_append_left (by rw [← h.1]; exact hj)] at h2
    exact h.2 j cs x h1 h2
  · rw [List.getElem?_append_right hj] at h1
    rw [List.getElem?_append_right (by rw [← h.1]; exact hj), ← h.1] at h2
    exact k.2 _ cs x h1 h2
theorem Rs.one {sz} {R : Mem → List Value → X → Prop} {F : Mem} {cs x} (h1 : cs.length = sz) (h2 : R F cs x) (h3 : cs.all Value.oneCell' = true) : Rs sz R F [cs] [x] :=
  ⟨rfl, fun j c y hc hy => by
    cases j with
    | zero => simp at hc hy; subst hc; subst hy; exact ⟨h1, h2, h3⟩
    | succ j => simp at hc⟩
theorem Rs.cons {sz} {R : Mem → List Value → X → Prop} {F : Mem} {cs x gs xs} (h1 : cs.length = sz) (h2 : R F cs x) (h3 : cs.all Value.oneCell' = true) (h : Rs sz R F gs xs) : Rs sz R F (cs :: gs) (x :: xs) :=
  Rs.append (Rs.one h1 h2 h3) h
theorem Rs.flat {sz} {R : Mem → List Value → X → Prop} {F : Mem} {gs xs} (h : Rs sz R F gs xs) : gs.flatten.length = xs.length * sz := by
  obtain ⟨h1, h2⟩ := h
  induction gs generalizing xs with
  | nil => cases xs with | nil => simp | cons x xs => simp at h1
  | cons c gs ih =>
    cases xs with
    | nil => simp at h1
    | cons x xs =>
      have := ih (xs := xs) (by simpa using h1) (fun j cs y k1 k2 => h2 (j + 1) cs y (by simpa using k1) (by simpa using k2))
      have h0 := (h2 0 c x rfl rfl).1
      simp only [List.flatten_cons, List.length_append, List.length_cons, this, h0, Nat.succ_mul]
      omega
theorem Rs.one' {sz} {R : Mem → List Value → X → Prop} {F : Mem} {gs xs} (h : Rs sz R F gs xs) : ∀ v ∈ gs.flatten, v.oneCell' = true := by
  intro v hv
  obtain ⟨c, hc, hvc⟩ := List.mem_flatten.1 hv
  obtain ⟨j, hj⟩ := List.getElem?_of_mem hc
  have hlt : j < gs.length := (List.getElem?_eq_some_iff.1 hj).1
  have hlx : j < xs.length := by rw [← h.1]; exact hlt
  obtain ⟨x, hx⟩ : ∃ x, xs[j]? = some x := ⟨xs[j], List.getElem?_eq_getElem hlx⟩
  exact List.all_eq_true.1 (h.2 j c x hj hx).2.2 v hvc
theorem Rs.take {sz} {R : Mem → List Value → X → Prop} {F : Mem} {gs xs} (h : Rs sz R F gs xs) (k : Nat) : Rs sz R F (gs.take k) (xs.take k) :=
  ⟨by simp [h.1], fun j cs x h1 h2 => by
    rw [List.getElem?_take] at h1 h2
    split at h1
    · rename_i hj; rw [if_pos hj] at h2; exact h.2 j cs x h1 h2
    · cases h1⟩
theorem Rs.drop {sz} {R : Mem → List Value → X → Prop} {F : Mem} {gs xs} (h : Rs sz R F gs xs) (k : Nat) : Rs sz R F (gs.drop k) (xs.drop k) :=
  ⟨by simp [h.1], fun j cs x h1 h2 => by
    rw [List.getElem?_drop] at h1 h2
    exact h.2 _ cs x h1 h2⟩
theorem Rs.set {sz} {R : Mem → List Value → X → Prop} {F : Mem} {gs xs} (h : Rs sz R F gs xs) (k : Nat) {cs x} (h1 : cs.length = sz) (h2 : R F cs x) (h3 : cs.all Value.oneCell' = true) : Rs sz R F (gs.set k cs) (xs.set k x) :=
  ⟨by simp [h.1], fun j c y hc hy => by
    rw [List.getElem?_set] at hc hy
    split at hc
    · rename_i hj
      subst hj
      rw [if_pos rfl] at hy
      split at hc
      · split at hy
        · cases hc; cases hy; exact ⟨h1, h2, h3⟩
        · cases hy
      · cases hc
    · rename_i hj
      rw [if_neg hj] at hy
      exact h.2 j c y hc hy⟩

/-- Where the cells of place 'k' stand. -/
theorem flatten_at {sz : Nat} : ∀ {gs : List (List Value)} (_ : ∀ c ∈ gs, c.length = sz) {k : Nat} {cs : List Value}, gs[k]? = some cs → ∃ A B, gs.flatten = A ++ cs ++ B ∧ A.length = k * sz
  | [], _, k, cs, h => by simp at h
  | c :: gs, hl, 0, cs, h => by
    simp at h; subst h
    exact ⟨[], gs.flatten, by simp, by simp⟩
  | c :: gs, hl, k + 1, cs, h => by
    obtain ⟨A, B, h1, h2⟩ := flatten_at (fun c' h' => hl c' (List.mem_cons_of_mem _ h')) (k := k) (cs := cs) (by simpa using h)
    refine ⟨c ++ A, B, by simp [h1], ?_⟩
    rw [List.length_append, h2, hl c (List.mem_cons_self ..), Nat.succ_mul]; omega
theorem Rs.lens {sz} {R : Mem → List Value → X → Prop} {F : Mem} {gs xs} (h : Rs sz R F gs xs) : ∀ c ∈ gs, c.length = sz := by
  intro c hc
  obtain ⟨j, hj⟩ := List.getElem?_of_mem hc
  have hlt : j < gs.length := (List.getElem?_eq_some_iff.1 hj).1
  have hlx : j < xs.length := by rw [← h.1]; exact hlt
  exact (h.2 j c xs[j] hj (List.getElem?_eq_getElem hlx)).1

/-- A slice that is read: where, its capacity, its list. -/
def RdL (sz : Nat) (R : Mem → List Value → X → Prop) (F : Mem) (a : Option Addr) (c : Nat) (xs : List X) : Prop :=
  xs.length ≤ c ∧ (xs = [] ∨ ∃ b o gs, a = some ⟨b, o, none⟩ ∧ Cells F b o gs.flatten ∧ Rs sz R F gs xs)
/-- A slice of the call's own. -/
def OwnL (sz : Nat) (R : Mem → List Value → X → Prop) (F : Mem) (e : TypeId) (a : Option Addr) (c : Nat) (xs : List X) (ψ : List Chunk) : Prop :=
  xs.length ≤ c ∧ ((c = 0 ∧ ψ = []) ∨ ∃ b gs sp, a = some ⟨b, 0, none⟩ ∧ ψ = [(b, row (gs.flatten ++ sp) e)] ∧ Rs sz R F gs xs ∧ (gs.flatten ++ sp).length = c * sz)

theorem RdL.mono {sz} {R : Mem → List Value → X → Prop} (hR : Mono R) {F G : Mem} (h : F.le G) {a c xs} (k : RdL sz R F a c xs) : RdL sz R G a c xs := by
  refine ⟨k.1, k.2.imp id ?_⟩
  rintro ⟨b, o, gs, h1, h2, h3⟩
  exact ⟨b, o, gs, h1, h2.mono h, h3.mono hR h⟩
theorem OwnL.mono {sz} {R : Mem → List Value → X → Prop} (hR : Mono R) {F G : Mem} (h : F.le G) {e a c xs ψ} (k : OwnL sz R F e a c xs ψ) : OwnL sz R G e a c xs ψ := by
  refine ⟨k.1, k.2.imp id ?_⟩
  rintro ⟨b, gs, sp, h1, h2, h3, h4⟩
  exact ⟨b, gs, sp, h1, h2, h3.mono hR h, h4⟩
theorem RdL.ofNone {sz} {R : Mem → List Value → X → Prop} {F : Mem} {c} {xs : List X} (h : RdL sz R F Option.none c xs) : xs = [] := by
  rcases h.2 with h | ⟨b, o, gs, h1, _⟩
  · exact h
  · cases h1
theorem Cells.ofAdd (F : Mem) (b : Nat) (cs : List Value) (e : TypeId) : Cells (F.add [(b, row cs e)]) b 0 cs :=
  ⟨_, _, _, Mem.has_of (List.mem_singleton.2 rfl), fun j v h => by simpa using h⟩
theorem RdL.nil {sz} {R : Mem → List Value → X → Prop} {F : Mem} {a c} : RdL sz R F a c [] := ⟨Nat.zero_le _, .inl rfl⟩
theorem OwnL.nil {sz} {R : Mem → List Value → X → Prop} {F : Mem} {e} : OwnL sz R F e none 0 ([] : List X) [] := ⟨Nat.le_refl _, .inl ⟨rfl, rfl⟩⟩
/-- Own memory that is handed to readers. -/
theorem OwnL.rd {sz} {R : Mem → List Value → X → Prop} (hR : Mono R) {F : Mem} {e a c} {xs : List X} {ψ} (k : OwnL sz R F e a c xs ψ) : RdL sz R (F.add ψ) a c xs := by
  obtain ⟨h0, ⟨rfl, rfl⟩ | ⟨b, gs, sp, rfl, rfl, h3, h4⟩⟩ := k
  · have : xs = [] := List.eq_nil_of_length_eq_zero (by omega)
    subst this
    exact RdL.nil
  · refine ⟨h0, .inr ⟨b, 0, gs, rfl, ⟨_, _, _, Mem.has_of (List.mem_singleton.2 rfl), fun j v hv => ?_⟩, h3.mono hR (Mem.le_add F _)⟩⟩
    have hj : j < gs.flatten.length := (List.getElem?_eq_some_iff.1 hv).1
    simp [List.getElem?_append_left hj, hv]

/-- The place 'i' of a list. -/
def getI (xs : List X) (i : Int) : Option X := if 0 ≤ i then xs[i.toNat]? else none
theorem getI_some {xs : List X} {i : Int} {x : X} (h : getI xs i = some x) : 0 ≤ i ∧ i < xs.length ∧ xs[i.toNat]? = some x := by
  unfold getI at h
  split at h
  · rename_i h0
    have := (List.getElem?_eq_some_iff.1 h).1
    exact ⟨h0, by omega, h⟩
  · cases h

theorem RdL.get {sz} {R : Mem → List Value → X → Prop} {F : Mem} {a c} {xs : List X} (h : RdL sz R F a c xs) {k : Nat} {x : X} (hx : xs[k]? = some x) :
    ∃ b o cs, a = some ⟨b, o, none⟩ ∧ Cells F b (o + k * sz) cs ∧ R F cs x ∧ cs.length = sz := by
  rcases h.2 with rfl | ⟨b, o, gs, rfl, h2, h3⟩
  · simp at hx
  · have hk : k < gs.length := by rw [h3.1]; exact (List.getElem?_eq_some_iff.1 hx).1
    obtain ⟨A, B, e1, e2⟩ := flatten_at h3.lens (k := k) (cs := gs[k]) (List.getElem?_eq_getElem hk)
    rw [e1, List.append_assoc] at h2
    have h4 := h3.2 k gs[k] x (List.getElem?_eq_getElem hk) hx
    exact ⟨b, o, gs[k], rfl, by rw [← e2]; exact h2.drop.take, h4.2.1, h4.1⟩

/-- A part of a slice that is read. -/
theorem RdL.slice {sz} {R : Mem → List Value → X → Prop} {F : Mem} {a c} {xs : List X} (h : RdL sz R F a c xs) {l k : Nat} (hlk : l ≤ k) (hk : k ≤ xs.length) :
    RdL sz R F (if c = l then a else a.map (·.add (l * sz))) (c - l) ((xs.take k).drop l) := by
  have h0 := h.1
  refine ⟨by simp only [List.length_drop, List.length_take]; omega, ?_⟩
  by_cases hlt : l = k
  · left
    exact List.eq_nil_of_length_eq_zero (by simp only [List.length_drop, List.length_take]; omega)
  · have hc : c ≠ l := by omega
    rw [if_neg hc]
    rcases h.2 with rfl | ⟨b, o, gs, rfl, h2, h3⟩
    · simp at hk; omega
    · refine .inr ⟨b, o + l * sz, (gs.take k).drop l, by simp [addr_add], ?_, (h3.take k).drop l⟩
      have e1 : gs.flatten = (gs.take l).flatten ++ (gs.drop l).flatten := by rw [← List.flatten_append, List.take_append_drop]
      have hl2 : (gs.take l).flatten.length = l * sz := by
        rw [(h3.take l).flat, List.length_take]
        congr 1; omega
      rw [e1] at h2
      have h5 := h2.drop
      rw [hl2] at h5
      have e2 : gs.drop l = (gs.drop l).take (k - l) ++ (gs.drop l).drop (k - l) := (List.take_append_drop ..).symm
      rw [e2, List.flatten_append] at h5
      have e3 : (gs.take k).drop l = (gs.drop l).take (k - l) := by rw [List.drop_take]
      rw [e3]
      exact h5.take

end Go.Pel

/- The rules of my own walk: memory as a list of blocks, a frame as a list of slots, one rule for each piece of code. -/
import Derived.WalkKit
import Derived.OrdersHeld
import Derived.Below
import Derived.KernelRfl
namespace Go.Pel
open Go.RowKit

/-! ### Memory -/

abbrev Chunk := Nat × Obj

/-- What lies below block number 'B' is as in 'w0'; the blocks of the pool are never written. -/
structure Mem where
  w0 : World
  B : Nat
  toks : List (List Chunk)
def Mem.pool (F : Mem) : List Chunk := F.toks.flatten

def Mem.has (F : Mem) (b : Nat) (o : Obj) : Prop := (b < F.B ∧ F.w0.heap[b]? = some o) ∨ (b, o) ∈ F.pool
def Mem.add (F : Mem) (ψ : List Chunk) : Mem := ⟨F.w0, F.B, ψ :: F.toks⟩
@[simp] theorem Mem.add_w0 (F : Mem) (ψ) : (F.add ψ).w0 = F.w0 := rfl
@[simp] theorem Mem.add_B (F : Mem) (ψ) : (F.add ψ).B = F.B := rfl
@[simp] theorem Mem.add_pool (F : Mem) (ψ) : (F.add ψ).pool = ψ ++ F.pool := rfl

/-- The one memory goes on in the other. -/
def Mem.le (F G : Mem) : Prop := G.w0 = F.w0 ∧ G.B = F.B ∧ ∃ r, (F.pool ++ r).Perm G.pool
theorem Mem.le_refl (F : Mem) : F.le F := ⟨rfl, rfl, [], by rw [List.append_nil]⟩
theorem Mem.le.trans {F G H : Mem} (h : F.le G) (k : G.le H) : F.le H := by
  obtain ⟨h1, h2, r, h3⟩ := h
  obtain ⟨k1, k2, s, k3⟩ := k
  refine ⟨k1.trans h1, k2.trans h2, r ++ s, ?_⟩
  rw [← List.append_assoc]
  exact (h3.append_right s).trans k3
theorem Mem.le_add (F : Mem) (ψ) : F.le (F.add ψ) := ⟨rfl, rfl, ψ, List.perm_append_comm⟩
theorem Mem.has.mono {F G : Mem} (h : F.le G) {b o} (k : F.has b o) : G.has b o := by
  obtain ⟨h1, h2, r, h3⟩ := h
  rcases k with ⟨k1, k2⟩ | k
  · exact .inl ⟨by rw [h2]; exact k1, by rw [h1]; exact k2⟩
  · exact .inr (h3.mem_iff.1 (List.mem_append_left _ k))
theorem Mem.has_of {F : Mem} {ψ : List Chunk} {b o} (h : (b, o) ∈ ψ) : (F.add ψ).has b o := .inr (by rw [Mem.add_pool]; exact List.mem_append_left _ h)

structure Sat (F : Mem) (Φ : List (List Chunk)) (w : World) : Prop where
  below : Below F.B F.w0 w
  base : F.B ≤ F.w0.heap.size
  nodup : ((F.pool ++ Φ.flatten).map (·.1)).Nodup
  cells : ∀ c ∈ F.pool ++ Φ.flatten, F.B ≤ c.1 ∧ w.heap[c.1]? = some c.2

theorem Sat.of_sub {F G : Mem} {Φ Φ' : List (List Chunk)} {w : World} (h : Sat F Φ w) (h0 : G.w0 = F.w0) (hB : G.B = F.B)
    (r : List Chunk) (hs : ((G.pool ++ Φ'.flatten) ++ r).Perm (F.pool ++ Φ.flatten)) : Sat G Φ' w := by
  refine ⟨by rw [h0, hB]; exact h.below, by rw [h0, hB]; exact h.base, ?_, fun c hc => ?_⟩
  · have h1 := ((hs.map (·.1)).nodup_iff).2 h.nodup
    rw [List.map_append] at h1
    exact (List.nodup_append.1 h1).1
  · have := h.cells c (hs.mem_iff.1 (List.mem_append_left r hc))
    rw [hB]; exact this

theorem Sat.perm {F : Mem} {Φ Φ' : List (List Chunk)} {w : World} (h : Sat F Φ w) (hp : Φ'.flatten.Perm Φ.flatten) : Sat F Φ' w :=
  h.of_sub rfl rfl [] (by rw [List.append_nil]; exact List.Perm.append_left _ hp)

theorem Sat.has {F : Mem} {Φ} {w : World} (h : Sat F Φ w) {b o} (k : F.has b o) : w.heap[b]? = some o := by
  rcases k with ⟨k1, k2⟩ | k
  · rw [h.below.block b k1]; exact k2
  · exact (h.cells (b, o) (List.mem_append_left _ k)).2

theorem Sat.mem {F : Mem} {Φ} {w : World} (h : Sat F Φ w) {b o} (k : (b, o) ∈ Φ.flatten) : w.heap[b]? = some o :=
  (h.cells (b, o) (by simp only [List.mem_append]; exact .inr k)).2

theorem cell_of {w : World} {b off : Nat} {c : Array Value} {e z} {v : Value} (h : w.heap[b]? = some (.cells c e z)) (hv : c[off]? = some v) :
    w.cell? ⟨b, off, none⟩ = some v := by
  simp [World.cell?, h, hv]

theorem Sat.drawn {F : Mem} {Φ} {w : World} (h : Sat F Φ w) (n : Nat) : Sat F Φ { w with drawn := n } :=
  ⟨⟨h.below.os, h.below.tape, h.below.output, h.below.size, h.below.block⟩, h.base, h.nodup, h.cells⟩

theorem Sat.lt {F : Mem} {Φ} {w : World} (h : Sat F Φ w) {c : Chunk} (hc : c ∈ F.pool ++ Φ.flatten) : c.1 < w.heap.size := by
  have := (h.cells c hc).2
  rcases Nat.lt_or_ge c.1 w.heap.size with hl | hl
  · exact hl
  · rw [Array.getElem?_eq_none hl] at this; cases this

theorem Sat.alloc {F : Mem} {Φ} {w : World} (h : Sat F Φ w) (o : Obj) : Sat F ([(w.heap.size, o)] :: Φ) { w with heap := w.heap.push o } := by
  have hBw : F.B ≤ w.heap.size := Nat.le_trans h.base h.below.size
  have hget : ∀ k, k < w.heap.size → (w.heap.push o)[k]? = w.heap[k]? := fun k hk => by rw [Array.getElem?_push, if_neg (by omega)]
  refine ⟨⟨h.below.os, h.below.tape, h.below.output, by simpa using Nat.le_succ_of_le h.below.size, fun k hk => ?_⟩, h.base, ?_, fun c hc => ?_⟩
  · show (w.heap.push o)[k]? = _
    rw [hget k (by omega)]; exact h.below.block k hk
  · simp only [List.flatten_cons, List.cons_append, List.nil_append]
    have hp : (F.pool ++ (w.heap.size, o) :: Φ.flatten).Perm ((w.heap.size, o) :: (F.pool ++ Φ.flatten)) := List.perm_middle
    rw [(hp.map _).nodup_iff]
    simp only [List.map_cons, List.nodup_cons]
    refine ⟨fun hm => ?_, h.nodup⟩
    obtain ⟨c, hc, he⟩ := List.mem_map.1 hm
    have := h.lt hc
    omega
  · simp only [List.flatten_cons, List.cons_append, List.nil_append] at hc
    have hc' : c = (w.heap.size, o) ∨ c ∈ F.pool ++ Φ.flatten := by
      simp only [List.mem_append, List.mem_cons] at hc ⊢
      rcases hc with hc | hc | hc
      · exact .inr (.inl hc)
      · exact .inl hc
      · exact .inr (.inr hc)
    rcases hc' with rfl | hc'
    · exact ⟨hBw, by simp⟩
    · exact ⟨(h.cells c hc').1, by show (w.heap.push o)[c.1]? = _; rw [hget _ (h.lt hc')]; exact (h.cells c hc').2⟩

theorem eq_of_key {l : List Chunk} (h : (l.map (·.1)).Nodup) {x y : Chunk} (hx : x ∈ l) (hy : y ∈ l) (e : x.1 = y.1) : x = y := by
  induction l with
  | nil => cases hx
  | cons z l ih =>
    simp only [List.map_cons, List.nodup_cons] at h
    rcases List.mem_cons.1 hx with rfl | hx' <;> rcases List.mem_cons.1 hy with rfl | hy'
    · rfl
    · exact absurd (List.mem_map.2 ⟨y, hy', e.symm⟩) h.1
    · exact absurd (List.mem_map.2 ⟨x, hx', e⟩) h.1
    · exact ih h.2 hx' hy'

/-- A block of an own group is put anew. -/
theorem Sat.put {F : Mem} {Φ : List (List Chunk)} {w w' : World} (h : Sat F Φ w) {g : Nat} {b : Nat} {o o' : Obj} (hg : Φ[g]? = some [(b, o)])
    (hw : w'.heap[b]? = some o') (hother : ∀ k, k ≠ b → w'.heap[k]? = w.heap[k]?) (hs : w'.heap.size = w.heap.size)
    (ho : w'.os = w.os) (ht : w'.tape = w.tape) (hu : w'.output = w.output) : Sat F (Φ.set g [(b, o')]) w' := by
  have hglt : g < Φ.length := by
    rcases Nat.lt_or_ge g Φ.length with hl | hl
    · exact hl
    · rw [List.getElem?_eq_none hl] at hg; cases hg
  have hget : Φ[g] = [(b, o)] := by simpa [List.getElem?_eq_getElem hglt] using hg
  have hsplit : Φ = Φ.take g ++ [(b, o)] :: Φ.drop (g + 1) := by
    conv => lhs; rw [← List.take_append_drop g Φ]
    rw [List.drop_eq_getElem_cons hglt, hget]
  have hset : Φ.set g [(b, o')] = Φ.take g ++ [(b, o')] :: Φ.drop (g + 1) := List.set_eq_take_append_cons_drop .. |>.trans (by rw [if_pos hglt])
  have hmemb : (b, o) ∈ F.pool ++ Φ.flatten := by rw [hsplit]; simp
  have hbB := (h.cells _ hmemb).1
  have hkeys : ((F.pool ++ (Φ.set g [(b, o')]).flatten).map (·.1)) = ((F.pool ++ Φ.flatten).map (·.1)) := by
    rw [hset]; conv => rhs; rw [hsplit]
    simp
  refine ⟨⟨ho.trans h.below.os, ht.trans h.below.tape, hu.trans h.below.output, by rw [hs]; exact h.below.size, fun k hk => ?_⟩, h.base, by rw [hkeys]; exact h.nodup, fun c hc => ?_⟩
  · rw [hother k (by simp only at hbB; omega)]; exact h.below.block k hk
  · by_cases hcb : c.1 = b
    · have hc2 : c = (b, o') := by
        have hnd : ((F.pool ++ (Φ.set g [(b, o')]).flatten).map (·.1)).Nodup := by rw [hkeys]; exact h.nodup
        have hmem : (b, o') ∈ F.pool ++ (Φ.set g [(b, o')]).flatten := by rw [hset]; simp
        exact eq_of_key hnd hc hmem hcb
      subst hc2
      exact ⟨hbB, hw⟩
    · have hc3 : c ∈ F.pool ++ Φ.flatten := by
        rw [hset] at hc; rw [hsplit]
        simp only [List.mem_append, List.flatten_append, List.flatten_cons, List.mem_cons, List.not_mem_nil, or_false] at hc ⊢
        rcases hc with hc | hc | hc | hc
        · exact .inl hc
        · exact .inr (.inl hc)
        · exact absurd (by rw [hc]) hcb
        · exact .inr (.inr (.inr hc))
      exact ⟨(h.cells c hc3).1, by rw [hother _ hcb]; exact (h.cells c hc3).2⟩

theorem setCell_heap_ne (w : World) (a : Addr) (v : Value) (k : Nat) (h : k ≠ a.block) : (w.setCell a v).heap[k]? = w.heap[k]? := Below.heap_setCell w a v k h
theorem setCell_heap_eq (w : World) (b off : Nat) (v : Value) (c : Array Value) (e z) (h : w.heap[b]? = some (.cells c e z)) :
    (w.setCell ⟨b, off, none⟩ v).heap[b]? = some (.cells (c.setIfInBounds off v) e z) := by
  simp [World.setCell, Array.getElem?_modify, h]
theorem setCell_size (w : World) (a : Addr) (v : Value) : (w.setCell a v).heap.size = w.heap.size := by simp [World.setCell]

theorem Sat.setCell {F : Mem} {Φ : List (List Chunk)} {w : World} (h : Sat F Φ w) {g b off : Nat} {c : Array Value} {e z} (hg : Φ[g]? = some [(b, .cells c e z)]) (v : Value) :
    Sat F (Φ.set g [(b, .cells (c.setIfInBounds off v) e z)]) (w.setCell ⟨b, off, none⟩ v) := by
  have hm : (b, Obj.cells c e z) ∈ Φ.flatten := List.mem_flatten.2 ⟨_, List.mem_of_getElem? hg, by simp⟩
  exact h.put hg (setCell_heap_eq w b off v c e z (h.mem hm)) (fun k hk => setCell_heap_ne w _ v k hk) (setCell_size ..) rfl rfl rfl

theorem Sat.setObj {F : Mem} {Φ : List (List Chunk)} {w : World} (h : Sat F Φ w) {g b : Nat} {o : Obj} (hg : Φ[g]? = some [(b, o)]) (o' : Obj) :
    Sat F (Φ.set g [(b, o')]) { w with heap := w.heap.setIfInBounds b o' } := by
  have hm : (b, o) ∈ Φ.flatten := List.mem_flatten.2 ⟨_, List.mem_of_getElem? hg, by simp⟩
  have hlt := h.lt (c := (b, o)) (by simp only [List.mem_append]; exact .inr hm)
  refine h.put hg ?_ (fun k hk => ?_) (by simp) rfl rfl rfl
  · simp [hlt]
  · show (w.heap.setIfInBounds b o')[k]? = _
    rw [Array.getElem?_setIfInBounds_ne (Ne.symm hk)]

/-- A group goes into the pool. -/
theorem Sat.freeze {F : Mem} {ψ : List Chunk} {Φ} {w : World} (h : Sat F (ψ :: Φ) w) : Sat (F.add ψ) Φ w :=
  h.of_sub rfl rfl [] (by
    rw [List.append_nil, Mem.add_pool, List.flatten_cons, ← List.append_assoc F.pool]
    exact List.perm_append_comm.append_right _)
theorem Sat.thaw {F : Mem} {ψ : List Chunk} {Φ} {w : World} (h : Sat (F.add ψ) Φ w) : Sat F (ψ :: Φ) w :=
  h.of_sub rfl rfl [] (by
    rw [List.append_nil, Mem.add_pool, List.flatten_cons, ← List.append_assoc F.pool]
    exact List.perm_append_comm.append_right _)
theorem Sat.back {F G : Mem} {Φ} {w : World} (h : Sat G Φ w) (hl : F.le G) : Sat F Φ w := by
  obtain ⟨h1, h2, r, h3⟩ := hl
  refine h.of_sub h1.symm h2.symm r ?_
  rw [List.append_assoc]
  refine (List.Perm.append_left _ List.perm_append_comm).trans ?_
  rw [← List.append_assoc]
  exact h3.append_right _
theorem Sat.drop {F : Mem} {ψ : List Chunk} {Φ} {w : World} (h : Sat (F.add ψ) Φ w) : Sat F Φ w := h.back (Mem.le_add F ψ)
theorem Sat.drop1 {F : Mem} {ψ : List Chunk} {Φ} {w : World} (h : Sat F (ψ :: Φ) w) : Sat F Φ w := h.freeze.drop
theorem Sat.freezeAt {F : Mem} {ψ : List Chunk} {Φ : List (List Chunk)} {w : World} (h : Sat F Φ w) {g : Nat} (hg : Φ[g]? = some ψ) : Sat (F.add ψ) (Φ.eraseIdx g) w := by
  have hlt : g < Φ.length := (List.getElem?_eq_some_iff.1 hg).1
  have hget : Φ[g] = ψ := by simpa [List.getElem?_eq_getElem hlt] using hg
  have h1 : Φ = Φ.take g ++ ψ :: Φ.drop (g + 1) := by
    conv => lhs; rw [← List.take_append_drop g Φ, List.drop_eq_getElem_cons hlt, hget]
  have h2 : Φ.eraseIdx g = Φ.take g ++ Φ.drop (g + 1) := List.eraseIdx_eq_take_drop_succ ..
  have h3 : Sat F (ψ :: Φ.eraseIdx g) w := h.perm (by
    rw [h2]; conv => rhs; rw [h1]
    simp only [List.flatten_cons, List.flatten_append]
    rw [← List.append_assoc, ← List.append_assoc]
    exact List.perm_append_comm.append_right _)
  exact h3.freeze

/-- The groups of the places 'is', in that order; each place at most once. -/
def pick {α : Type} (l : List (List α)) (is : List Nat) : List (List α) := is.map fun i => l.getD i []
theorem pick_cons0 {α : Type} (x : List α) (l : List (List α)) (is : List Nat) (h0 : 0 ∉ is) : pick (x :: l) is = pick l (is.map (· - 1)) := by
  simp only [pick, List.map_map]
  refine List.map_congr_left fun i hi => ?_
  have : i ≠ 0 := fun e => h0 (e ▸ hi)
  obtain ⟨j, rfl⟩ : ∃ j, i = j + 1 := ⟨i - 1, by omega⟩
  simp
theorem pred_nodup (is : List Nat) (h : is.Nodup) (h0 : 0 ∉ is) : (is.map (· - 1)).Nodup := by
  induction is with
  | nil => simp
  | cons i is ih =>
    simp only [List.nodup_cons, List.mem_cons, not_or, List.map_cons, List.mem_map, not_exists, not_and] at *
    refine ⟨fun j hj e => ?_, ih h.2 h0.2⟩
    have hj0 : j ≠ 0 := fun e0 => h0.2 (e0 ▸ hj)
    have : j = i := by omega
    exact h.1 (this ▸ hj)
theorem pick_sub {α : Type} (l : List (List α)) (is : List Nat) (h : is.Nodup) : ∃ r, ((pick l is).flatten ++ r).Perm l.flatten := by
  induction l generalizing is with
  | nil =>
    refine ⟨[], ?_⟩
    have : (pick ([] : List (List α)) is).flatten = [] := by
      simp [pick]
    rw [this]; simp
  | cons x l ih =>
    by_cases h0 : 0 ∈ is
    · obtain ⟨s, t, rfl⟩ := List.append_of_mem h0
      have hnd : (0 :: (s ++ t)).Nodup := (List.perm_middle.nodup_iff).1 h
      have h0' : 0 ∉ s ++ t := (List.nodup_cons.1 hnd).1
      have hst := (List.nodup_cons.1 hnd).2
      obtain ⟨r, hr⟩ := ih _ (pred_nodup _ hst h0')
      refine ⟨r, ?_⟩
      rw [← pick_cons0 x l _ h0'] at hr
      have hp : (pick (x :: l) (s ++ 0 :: t)).flatten.Perm (x ++ (pick (x :: l) (s ++ t)).flatten) := by
        simp only [pick, List.map_append, List.map_cons, List.flatten_append, List.flatten_cons, List.getD_cons_zero]
        rw [← List.append_assoc, ← List.append_assoc]
        exact (List.perm_append_comm).append_right _
      refine (hp.append_right r).trans ?_
      rw [List.append_assoc, List.flatten_cons]
      exact List.Perm.append_left _ hr
    · obtain ⟨r, hr⟩ := ih _ (pred_nodup _ h h0)
      refine ⟨x ++ r, ?_⟩
      rw [pick_cons0 x l _ h0, List.flatten_cons]
      refine List.Perm.trans ?_ (List.Perm.append_left x hr)
      rw [← List.append_assoc, ← List.append_assoc]
      exact List.perm_append_comm.append_right _

/-- Places: each at most once, each below 'k'. -/
def okIs (k : Nat) (is : List Nat) : Bool := is.all (Nat.blt · k) && decide is.Nodup
theorem pick_front {α : Type} (l : List (List α)) (k : Nat) (is : List Nat) (h : okIs k is = true) : ∃ r, ((pick (l.take k) is).flatten ++ r).Perm (l.take k).flatten := by
  simp only [okIs, Bool.and_eq_true, decide_eq_true_eq] at h
  exact pick_sub _ is h.2
/-- Less is known: of the first 'k' tokens those of the places 'is'. -/
theorem Mem.le_pick (M : Mem) (k : Nat) (is : List Nat) (h : okIs k is = true) : (Mem.mk M.w0 M.B (Pel.pick (M.toks.take k) is ++ M.toks.drop k)).le M := by
  obtain ⟨r, hr⟩ := pick_front M.toks k is h
  refine ⟨rfl, rfl, r, ?_⟩
  show ((Pel.pick (M.toks.take k) is ++ M.toks.drop k).flatten ++ r).Perm M.toks.flatten
  conv => rhs; rw [← List.take_append_drop k M.toks, List.flatten_append]
  rw [List.flatten_append, List.append_assoc]
  refine (List.Perm.append_left _ List.perm_append_comm).trans ?_
  rw [← List.append_assoc]
  exact hr.append_right _
/-- The first 'k' tokens and the first 'n' groups, laid anew. -/
theorem Sat.arrange {F : Mem} {Φ : List (List Chunk)} {w : World} (h : Sat F Φ w) (k n : Nat) (is js : List Nat) (hn : okIs (k + n) (is ++ js) = true) :
    Sat ⟨F.w0, F.B, Pel.pick (F.toks.take k ++ Φ.take n) is ++ F.toks.drop k⟩ (Pel.pick (F.toks.take k ++ Φ.take n) js ++ Φ.drop n) w := by
  simp only [okIs, Bool.and_eq_true, decide_eq_true_eq] at hn
  obtain ⟨r, hr⟩ := pick_sub (F.toks.take k ++ Φ.take n) (is ++ js) hn.2
  refine h.of_sub rfl rfl r ?_
  have e1 : Pel.pick (F.toks.take k ++ Φ.take n) (is ++ js) = Pel.pick (F.toks.take k ++ Φ.take n) is ++ Pel.pick (F.toks.take k ++ Φ.take n) js := by simp [Pel.pick]
  rw [e1, List.flatten_append] at hr
  generalize Pel.pick (F.toks.take k ++ Φ.take n) is = I at *
  generalize Pel.pick (F.toks.take k ++ Φ.take n) js = J at *
  show (((I ++ F.toks.drop k).flatten ++ (J ++ Φ.drop n).flatten) ++ r).Perm (F.toks.flatten ++ Φ.flatten)
  have e2 : F.toks.flatten = (F.toks.take k).flatten ++ (F.toks.drop k).flatten := by rw [← List.flatten_append, List.take_append_drop]
  have e3 : Φ.flatten = (Φ.take n).flatten ++ (Φ.drop n).flatten := by rw [← List.flatten_append, List.take_append_drop]
  rw [e2, e3]
  rw [List.flatten_append] at hr
  simp only [List.flatten_append]
  generalize (F.toks.drop k).flatten = T at *
  generalize (Φ.drop n).flatten = U at *
  generalize I.flatten = I' at *
  generalize J.flatten = J' at *
  generalize (F.toks.take k).flatten = A at *
  generalize (Φ.take n).flatten = C at *
  classical
  rw [List.perm_iff_count] at hr ⊢
  intro x
  have := hr x
  simp only [List.count_append] at this ⊢
  omega
/-- The first 'k' tokens as one. -/
theorem Sat.gather {F : Mem} {Φ : List (List Chunk)} {w : World} (h : Sat F Φ w) (k : Nat) : Sat ⟨F.w0, F.B, (F.toks.take k).flatten :: F.toks.drop k⟩ Φ w :=
  h.of_sub rfl rfl [] (by
    show (((F.toks.take k).flatten :: F.toks.drop k).flatten ++ Φ.flatten ++ []).Perm (F.toks.flatten ++ Φ.flatten)
    rw [List.append_nil, List.flatten_cons, ← List.flatten_append, List.take_append_drop])
theorem Mem.le_gather (M : Mem) (k : Nat) : M.le ⟨M.w0, M.B, (M.toks.take k).flatten :: M.toks.drop k⟩ :=
  ⟨rfl, rfl, [], by
    show (M.toks.flatten ++ []).Perm ((M.toks.take k).flatten :: M.toks.drop k).flatten
    rw [List.append_nil, List.flatten_cons, ← List.flatten_append, List.take_append_drop]⟩
/-- The one token, parted. -/
theorem Sat.ungather {F : Mem} {l : List (List Chunk)} {Φ : List (List Chunk)} {w : World} (h : Sat (F.add l.flatten) Φ w) : Sat ⟨F.w0, F.B, l ++ F.toks⟩ Φ w :=
  h.of_sub rfl rfl [] (by
    show ((l ++ F.toks).flatten ++ Φ.flatten ++ []).Perm ((l.flatten ++ F.pool) ++ Φ.flatten)
    rw [List.append_nil, List.flatten_append]; exact List.Perm.refl _)

theorem Sat.pick {F : Mem} {Φ : List (List Chunk)} {w : World} (h : Sat F Φ w) (is : List Nat) (hn : is.Nodup) : Sat F (pick Φ is) w := by
  obtain ⟨r, hr⟩ := pick_sub Φ is hn
  exact h.of_sub rfl rfl r (by rw [List.append_assoc]; exact List.Perm.append_left _ hr)
end Go.Pel

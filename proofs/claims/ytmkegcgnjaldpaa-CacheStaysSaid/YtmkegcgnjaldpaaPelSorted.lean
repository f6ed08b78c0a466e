/- slices.Sorted(maps.Keys(m)): the keys (whole numbers) of a map of the call's own. -/
import Derived.Test.YtmkegcgnjaldpaaPelRanges
import Derived.Shelf.SlIterI.Nil
import Derived.Shelf.SortM.Plain
import Derived.Shelf.SortM.SortNone
namespace Go.Pel
open Go.RowKit Go.Proofs

/-- What the library's two functions do at a map that is not nil. -/
structure SortedKeys (P : Program) (k : TypeId) (fK fS g : Nat) (T e : TypeId) : Prop where
  keys : ∀ mb W, Calls P fK #[.map mb] W fun e w' => e = .returned (.func (.func g) #[] #[.pointer (some ⟨W.heap.size, 0, none⟩)]) ∧ w' = W.alloc (.cells #[.map mb] T)
  sorted : ∀ (Bm b nn : Nat) (D0 : DataW Unit) (R : Value → Option (DataW Unit × List MemPlace)) (W : World), Bm < W.heap.size → W.cell? ⟨Bm, 0, none⟩ = some (.map (some b)) → W.ownsMap P k R b nn D0 →
    Maps.size D0 ≤ maxLen → Maps.size D0 * 8 ≤ 140737488355328 →
    Calls P fS #[.func (.func g) #[] #[.pointer (some ⟨Bm, 0, none⟩)]] W fun x w' => ∃ (v : Value) (ss : List Int), x = .returned v ∧ ss.Perm (intKeys D0) ∧
      w'.ownsRow W.heap.size e 1 v ss.length ((ss.mergeSort (fun x y => decide (x ≤ y))).map encZ) ∧ Below W.heap.size W w'
  look : P.underlying k = some (.int .i64)
  calK : callable P fK = true
  calS : callable P fS = true

/-- The element relation of a map of which the keys alone are looked at. -/
def anyR : Value → Option (DataW Unit × List MemPlace) := fun _ => some (.nil, [])
def intsOk (l : List Int) : Bool := (l.all fun x => (Lit.int .i64 x).wf) && decide (l.length ≤ 17592186044416)
/-- The sorted keys: where each is a number of the kind. -/
def sortO (l : List Int) : Option (List Int) := if intsOk l then some (l.mergeSort leI) else none
theorem sortO_perm {l l' : List Int} (h : l.Perm l') : sortO l = sortO l' := by
  unfold sortO
  have h1 : intsOk l = intsOk l' := by
    unfold intsOk
    rw [h.length_eq]
    congr 1
    rw [Bool.eq_iff_iff, List.all_eq_true, List.all_eq_true]
    exact ⟨fun k x hx => k x (h.mem_iff.2 hx), fun k x hx => k x (h.mem_iff.1 hx)⟩
  rw [h1, mergeSort_of_perm_i h]
theorem sortO_some {l r : List Int} (h : sortO l = some r) : intsOk l = true ∧ r = l.mergeSort leI := by
  unfold sortO at h
  split at h
  · exact ⟨by assumption, (Option.some.inj h).symm⟩
  · cases h

theorem insert_perm {x : Lit × DataW Unit} : ∀ (l : List (Lit × DataW Unit)), (DataW.insert x l).Perm (x :: l)
  | [] => List.Perm.refl _
  | y :: r => by
    unfold DataW.insert
    split
    · exact List.Perm.refl _
    · exact ((insert_perm r).cons y).trans (List.Perm.swap _ _ _)
theorem foldr_insert_perm : ∀ (l : List (Lit × DataW Unit)), (l.foldr DataW.insert []).Perm l
  | [] => List.Perm.refl _
  | x :: l => (insert_perm _).trans ((foldr_insert_perm l).cons x)

theorem flatten_sing {α β : Type} (f : α → β) : ∀ (l : List α), (l.map fun x => [f x]).flatten = l.map f
  | [] => rfl
  | a :: l => by simp [flatten_sing f l]
theorem Sat.addNew {F : Mem} {Φ : List (List Chunk)} {w w' : World} (h0 : Sat F Φ w) (h : Sat F Φ w') {b : Nat} {o : Obj} (hb : w.heap.size ≤ b) (ho : w'.heap[b]? = some o) : Sat F ([(b, o)] :: Φ) w' := by
  have hlt := fun c hc => h0.lt (c := c) hc
  refine ⟨h.below, h.base, ?_, fun c hc => ?_⟩
  · simp only [List.flatten_cons, List.cons_append, List.nil_append]
    rw [((List.perm_middle (l₁ := F.pool) (l₂ := Φ.flatten) (a := (b, o))).map (·.1)).nodup_iff, List.map_cons, List.nodup_cons]
    refine ⟨fun hm => ?_, h0.nodup⟩
    obtain ⟨c, hc, e⟩ := List.mem_map.1 hm
    have := hlt c hc
    simp only at e
    omega
  · simp only [List.flatten_cons, List.cons_append, List.nil_append, List.mem_append, List.mem_cons] at hc
    rcases hc with hc | rfl | hc
    · exact h.cells c (List.mem_append_left _ hc)
    · exact ⟨Nat.le_trans (Nat.le_trans h0.base h0.below.size) hb, ho⟩
    · exact h.cells c (List.mem_append_right _ hc)

/-! ### The keys that a round over a map lays into another map -/
def nubI : List Int → List Int
  | [] => []
  | x :: l => if x ∈ nubI l then nubI l else x :: nubI l
theorem mem_nubI {y : Int} : ∀ {l : List Int}, y ∈ nubI l ↔ y ∈ l
  | [] => Iff.rfl
  | x :: l => by
    unfold nubI
    split
    · rename_i h
      rw [mem_nubI, List.mem_cons]
      exact ⟨.inr, fun h1 => h1.elim (fun e => e ▸ mem_nubI.1 h) id⟩
    · rw [List.mem_cons, List.mem_cons, mem_nubI]
theorem nubI_nodup : ∀ (l : List Int), (nubI l).Nodup
  | [] => List.nodup_nil
  | x :: l => by
    unfold nubI
    split
    · exact nubI_nodup l
    · exact List.nodup_cons.2 ⟨by assumption, nubI_nodup l⟩
theorem mem_mput {K V : Type} [DecidableEq K] {x q : K} {v : V} {m : List (K × V)} : x ∈ (mput m q v).map (·.1) ↔ x = q ∨ x ∈ m.map (·.1) := by
  unfold mput
  split
  · rename_i h
    obtain ⟨p, hp, hq⟩ := List.any_eq_true.1 h
    have hq := of_decide_eq_true hq
    have e : (m.map fun p => if p.1 = q then (q, v) else p).map (·.1) = m.map (·.1) := by
      rw [List.map_map]
      apply List.map_congr_left
      intro r _
      simp only [Function.comp]
      split
      · rename_i h1; exact h1.symm
      · rfl
    rw [e]
    exact ⟨.inr, fun h1 => h1.elim (fun h2 => List.mem_map.2 ⟨p, hp, hq.trans h2.symm⟩) id⟩
  · rw [List.map_append, List.mem_append]
    simp only [List.map_cons, List.map_nil, List.mem_cons, List.not_mem_nil, or_false]
    exact or_comm
section
variable {K V U : Type} [DecidableEq K]
def AI (f : K × V → Int) (m : List (K × V)) (sk : List K) (h : List (Int × U)) : Prop := ∀ x, x ∈ h.map (·.1) ↔ ∃ p ∈ m, p.1 ∈ sk ∧ f p = x
omit [DecidableEq K] in
theorem AI.start {f : K × V → Int} {m : List (K × V)} : AI f m [] ([] : List (Int × U)) := fun x => by simp
omit [DecidableEq K] in
theorem AI.put {f : K × V → Int} {m : List (K × V)} {sk : List K} {h : List (Int × U)} (a : AI f m sk h) (hn : (m.map (·.1)).Nodup) {p : K × V} (hp : p ∈ m) (u : U) : AI f m (p.1 :: sk) (mput h (f p) u) := fun x => by
  rw [mem_mput, a x]
  constructor
  · rintro (rfl | ⟨q, h1, h2, h3⟩)
    · exact ⟨p, hp, List.mem_cons_self .., rfl⟩
    · exact ⟨q, h1, List.mem_cons_of_mem _ h2, h3⟩
  · rintro ⟨q, h1, h2, h3⟩
    rcases List.mem_cons.1 h2 with h2 | h2
    · exact .inl (by rw [← h3, same_key hn h1 hp h2])
    · exact .inr ⟨q, h1, h2, h3⟩
/-- What stands there when the round is over. -/
def KI (L : List Int) (h : List (Int × U)) : Prop := ∀ x, x ∈ h.map (·.1) ↔ x ∈ L
omit [DecidableEq K] in
theorem AI.over {f : K × V → Int} {m : List (K × V)} {sk : List K} {h : List (Int × U)} (a : AI f m sk h) (ha : ∀ p ∈ m, p.1 ∈ sk) : KI (m.map f) h := fun x => by
  rw [a x, List.mem_map]
  exact ⟨fun ⟨p, h1, _, h3⟩ => ⟨p, h1, h3⟩, fun ⟨p, h1, h3⟩ => ⟨p, h1, ha p h1, h3⟩⟩
theorem KI.perm {L : List Int} {h : List (Int × U)} (a : KI L h) (hn : (h.map (·.1)).Nodup) : (nubI L).Perm (h.map (·.1)) :=
  (List.perm_ext_iff_of_nodup (nubI_nodup L) hn).2 fun x => by rw [mem_nubI, a x]
theorem KI.sort {L r : List Int} {h : List (Int × U)} (a : KI L h) (hn : (h.map (·.1)).Nodup) (hr : sortO (nubI L) = some r) : sortO (h.map (·.1)) = some r := by rw [← hr, sortO_perm (a.perm hn)]
end
theorem OwnM.nodup {K V : Type} {enc : K → Value} {RV : Mem → Value → V → Prop} {F : Mem} {b : Nat} {m : List (K × V)} {ψ : List Chunk} (h : OwnM enc RV F b m ψ) : (m.map (·.1)).Nodup := by
  obtain ⟨es, clock, _, _, _, h5, _⟩ := h
  exact h5
section
variable {V : Type} {RV : Mem → Value → V → Prop}
theorem OwnM.owns {P : Program} {k : TypeId} (hk : P.underlying k = some (.int .i64)) {F : Mem} {b : Nat} {m : List (Int × V)} {ψ : List Chunk} (h : OwnM (Value.int .i64) RV F b m ψ) (hm : intsOk (m.map (·.1)) = true)
    {w : World} (hb : ∀ c ∈ ψ, w.heap[c.1]? = some c.2) :
    ∃ D : DataW Unit, w.ownsMap P k anyR b m.length D ∧ (intKeys D).Perm (m.map (·.1)) ∧ Maps.size D = m.length := by
  obtain ⟨es, clock, rfl, h2, h3, h4, h5⟩ := h
  have hlen : es.length = m.length := by simpa using congrArg List.length h2
  unfold intsOk at hm
  simp only [Bool.and_eq_true, decide_eq_true_eq, List.all_eq_true, List.length_map] at hm
  have hrd : ∀ x ∈ es, ∃ z : Int, x.key = .int .i64 z ∧ WideElems.rd P k anyR x = some (Lit.int .i64 z, DataW.nil) := by
    intro x hx
    have : x.key ∈ (m.map (·.1)).map (Value.int .i64) := by rw [← h2]; exact List.mem_map_of_mem hx
    obtain ⟨z, hz, he⟩ := List.mem_map.1 this
    refine ⟨z, he.symm, ?_⟩
    unfold WideElems.rd
    rw [← he, Maps.keyOf_int_mk hk (hm.1 z hz)]
    rfl
  have hrg : ∀ x ∈ es, ∃ z : Int, x.key = .int .i64 z ∧ WideElems.rg P k anyR x = (Lit.int .i64 z, DataW.nil) := by
    intro x hx
    obtain ⟨z, h1, h2⟩ := hrd x hx
    exact ⟨z, h1, by unfold WideElems.rg; rw [h2]; rfl⟩
  refine ⟨.map ((es.map (WideElems.rg P k anyR)).foldr DataW.insert []), ⟨es.toArray, clock, ?_, ⟨?_, ⟨?_, ?_, ?_⟩, ?_⟩, ?_, rfl⟩, ?_, ?_⟩
  · exact hb (b, .map es.toArray clock) (List.mem_singleton.2 rfl)
  · have : es.toArray.size = m.length := by simpa using hlen
    rw [this]
    refine Nat.le_trans hm.2 ?_
    decide
  · intro x hx; exact h5.1 x (by simpa using hx)
  · simpa using h5.2
  · have : es.toArray.toList.map (·.key) = (m.map (·.1)).map (Value.int .i64) := by simpa using h2
    rw [this]
    exact List.pairwise_map.2 (h4.imp fun {a b} hne h => hne (by simpa using h))
  · intro x hx
    obtain ⟨z, _, hz⟩ := hrd x (by simpa using hx)
    exact ⟨_, hz⟩
  · simp [hlen]
  · show List.Perm (((es.map (WideElems.rg P k anyR)).foldr DataW.insert []).map fun p => intOf p.1) _
    refine ((foldr_insert_perm _).map _).trans ?_
    rw [List.map_map]
    have : es.map ((fun p : Lit × DataW Unit => intOf p.1) ∘ WideElems.rg P k anyR) = m.map (·.1) := by
      have h6 : (m.map (·.1)) = (es.map (·.key)).map fun v => match v with | .int _ z => z | _ => 0 := by
        rw [h2, List.map_map]
        conv => lhs; rw [← List.map_id (m.map (·.1))]
        apply List.map_congr_left
        intro a _; rfl
      rw [h6, List.map_map]
      apply List.map_congr_left
      intro x hx
      obtain ⟨z, h7, h8⟩ := hrg x hx
      simp [Function.comp, h7, h8, intOf]
    rw [this]
  · show ((es.map (WideElems.rg P k anyR)).foldr DataW.insert []).length = _
    rw [(foldr_insert_perm _).length_eq, List.length_map, hlen]

variable {P : Program} {k T e : TypeId} {fK fS g : Nat} {F F1 : Mem} {Φ : List (List Chunk)}
theorem SortedKeys.keysC (h : SortedKeys P k fK fS g T e) (mb : Option Nat) : CallsRet P fK (List.toArray [.map mb]) F Φ (fun v w => ∃ r, v = .func (.func g) #[] #[.pointer (some ⟨r, 0, none⟩)] ∧ Sat F ([(r, row [.map mb] T)] :: Φ) w) := fun w hs =>
  (h.keys mb w).mono fun e w' ⟨h1, h2⟩ => ⟨_, h1, w.heap.size, rfl, by rw [h2]; exact hs.alloc _⟩
theorem SortedKeys.sortedC (h : SortedKeys P k fK fS g T e) {b r : Nat} {m : List (Int × V)} {ψ : List Chunk} (gi : Nat) (hM : OwnM (Value.int .i64) RV F1 b m ψ) (hΦ : ([(r, row [.map (some b)] T)] :: Φ)[gi]? = some ψ) {l : List Int} (hl : sortO (m.map (·.1)) = some l) :
    CallsRet P fS (List.toArray [.func (.func g) #[] #[.pointer (some ⟨r, 0, none⟩)]]) F ([(r, row [.map (some b)] T)] :: Φ) (fun v w => ∃ a c ψ', v = .slice a l.length c ∧ Sat F (ψ' :: [(r, row [.map (some b)] T)] :: Φ) w ∧ ∀ F2, OwnL 1 (RInt .i64) F2 e a c l ψ') := fun w hs => by
  obtain ⟨hok, rfl⟩ := sortO_some hl
  have hr : w.heap[r]? = some (row [.map (some b)] T) := hs.mem (List.mem_flatten.2 ⟨_, List.mem_cons_self .., by simp⟩)
  have hrl : r < w.heap.size := (Array.getElem?_eq_some_iff.1 hr).1
  obtain ⟨D, hD1, hD2, hD3⟩ := hM.owns h.look hok (w := w) (fun c hc => hs.mem (List.mem_flatten.2 ⟨_, List.mem_of_getElem? hΦ, hc⟩))
  have hlen : m.length ≤ 17592186044416 := by
    unfold intsOk at hok
    simp only [Bool.and_eq_true, decide_eq_true_eq, List.length_map] at hok
    exact hok.2
  refine (h.sorted r b _ D anyR w hrl ?_ hD1 ?_ ?_).mono fun x w' ⟨v, ss, h1, h2, h3, h4⟩ => ?_
  · unfold row at hr
    exact cell_of hr rfl
  · rw [hD3]; refine Nat.le_trans hlen ?_; decide
  · rw [hD3]; omega
  have hp : ss.Perm (m.map (·.1)) := h2.trans hD2
  have hsort : (ss.mergeSort fun x y => decide (x ≤ y)) = (m.map (·.1)).mergeSort leI := mergeSort_of_perm_i hp
  rw [hsort] at h3
  have hln : ss.length = ((m.map (·.1)).mergeSort leI).length := by rw [← hsort]; simp
  rw [hln] at h3
  refine ⟨v, h1, ?_⟩
  generalize (m.map (·.1)).mergeSort leI = l at h3
  have hsame : Sat F ([(r, row [.map (some b)] T)] :: Φ) w' := ⟨hs.below.trans (h4.mono (Nat.le_trans hs.base hs.below.size)), hs.base, hs.nodup, fun c hc => by
    have h5 := hs.cells c hc
    have h6 := (Array.getElem?_eq_some_iff.1 h5.2).1
    exact ⟨h5.1, (h4.block _ h6).trans h5.2⟩⟩
  rcases h3.2 with ⟨rfl, hz⟩ | ⟨gb, cap, cur, rfl, hbase, hgb, r1, r2, r3, r4⟩
  · have : l = [] := List.eq_nil_of_length_eq_zero hz
    subst this
    exact ⟨none, 0, [], rfl, hsame.perm (by simp), fun F2 => OwnL.nil⟩
  · have h6 : (l.map fun x => [Value.int .i64 x]).flatten = cur.toList.take l.length := by
      rw [flatten_sing]; rw [Nat.mul_one] at r4; exact r4.symm
    refine ⟨_, cap, [(gb, row cur.toList e)], rfl, ?_, fun F2 => ⟨r1, .inr ⟨gb, l.map fun x => [Value.int .i64 x], cur.toList.drop l.length, rfl, ?_, ?_, ?_⟩⟩⟩
    · refine hs.addNew hsame hbase ?_
      rw [hgb]
    · rw [h6, List.take_append_drop]
    · refine ⟨by simp, fun j cs x k1 k2 => ?_⟩
      rw [List.getElem?_map, k2] at k1
      cases k1
      exact ⟨rfl, rfl, rfl⟩
    · rw [h6, List.take_append_drop]
      simpa using r3
end
end Go.Pel

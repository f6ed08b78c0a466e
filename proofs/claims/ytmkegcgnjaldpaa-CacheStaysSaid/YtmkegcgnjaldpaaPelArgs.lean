/- What is handed in, read out of memory. -/
import Derived.Test.YtmkegcgnjaldpaaPelCuts
import Derived.ProofKit
import Derived.OpenShut
import Derived.ShutString
import Derived.ChangeOld
import Derived.SizedLaws
import Derived.Carry
import Derived.Deep.Slices
namespace Go.Pel
open Go.RowKit Go.Deep

/-- The memory as it is handed in. -/
def M0 (w : World) : Mem := Mem.add ⟨w, w.heap.size, []⟩ []
theorem Sat.start (w : World) : Sat (M0 w) [] w := ⟨Below.refl _ _, Nat.le_refl _, by simp [M0, Mem.pool, Mem.add], fun c h => by simp [M0, Mem.pool, Mem.add] at h⟩
theorem M0.has {w : World} {b : Nat} {o : Obj} (h : w.heap[b]? = some o) : (M0 w).has b o := .inl ⟨(Array.getElem?_eq_some_iff.1 h).1, h⟩

/-- Bounds of a list. -/
def wfL {X : Type} (wf : X → Prop) (xs : List X) : Prop := xs.length ≤ maxLen ∧ ∀ x ∈ xs, wf x
def inK (k : IntKind) (x : Int) : Prop := k.min ≤ x ∧ x ≤ k.max
/-- How values of a type are opened. -/
structure ArgB (P : Program) (w : World) (t : TypeId) (n : Nat) {X : Type} (R : Mem → List Value → X → Prop) (wf : X → Prop) : Prop where
  size : P.cellsOf t = n
  read : ∀ {H : Type} (enc : TypeId × Value → H) (fuel : Nat) (cs : List Value) (x : DataW H × List MemPlace), DataW.trod enc P w 0 (fun _ => true) true fuel t cs = some x → ∃ y, R (M0 w) cs y ∧ wf y ∧ cs.length = n ∧ cs.all Value.oneCell' = true

section
variable {P : Program} {w : World}
theorem arg_int {t : TypeId} {k : IntKind} (ht : P.underlying t = some (.int k)) (hc : P.cellsOf t = 1) : ArgB P w t 1 (RInt k) (inK k) :=
  ⟨hc, fun enc fuel cs x h => by
    obtain ⟨n, rfl, _, hw⟩ := DataW.trod_int ht h
    simp only [Lit.wf, Bool.and_eq_true, decide_eq_true_eq] at hw
    exact ⟨n, rfl, hw, rfl, rfl⟩⟩
theorem arg_bool {t : TypeId} (ht : P.underlying t = some .bool) (hc : P.cellsOf t = 1) : ArgB P w t 1 RBool (fun _ => True) :=
  ⟨hc, fun enc fuel cs x h => by
    obtain ⟨n, rfl, _⟩ := DataW.trod_bool ht h
    exact ⟨n, rfl, trivial, rfl, rfl⟩⟩
theorem addr_add2 (w : World) (a : Addr) (m k : Nat) : w.cell? ((a.add m).add k) = w.cell? (a.add (m + k)) := by
  by_cases hm : m = 0
  · subst hm; simp [Addr.add]
  · by_cases hk : k = 0
    · subst hk; simp [Addr.add]
    · have : ¬ (m = 0 ∧ k = 0) := by omega
      simp [Addr.add, hm, hk, Nat.add_assoc]
theorem arg_rows {X : Type} {e : TypeId} {n : Nat} {R : Mem → List Value → X → Prop} {wf : X → Prop} (hA : ArgB P w e n R wf) {H : Type} (enc : TypeId × Value → H) (a : Addr) (f : Nat) (D : Nat → DataW H × List MemPlace) : ∀ (len : Nat), (∀ i, i < len → ∃ cs', w.cells? 0 (a.add (i * P.cellsOf e)) (P.cellsOf e) = some cs' ∧ DataW.trod enc P w 0 (fun _ => true) true f e cs' = some (D i)) →
    ∃ gs xs, gs.length = len ∧ Rs n R (M0 w) gs xs ∧ (∀ x ∈ xs, wf x) ∧ ∀ j v, gs.flatten[j]? = some v → w.cell? (a.add j) = some v
  | 0, _ => ⟨[], [], rfl, Rs.nil, fun x h => by simp at h, fun j v h => by simp at h⟩
  | len + 1, h => by
    obtain ⟨gs, xs, h1, h2, h3, h4⟩ := arg_rows hA enc a f D len (fun i hi => h i (by omega))
    obtain ⟨cs', k1, k2⟩ := h len (by omega)
    obtain ⟨y, q1, q2, q3, q4⟩ := hA.read enc f cs' (D len) k2
    obtain ⟨_, _, k3⟩ := World.cells?_some k1
    rw [hA.size] at k3
    refine ⟨gs ++ [cs'], xs ++ [y], by simp [h1], h2.append (Rs.one q3 q1 q4), fun x hx => ?_, fun j v hv => ?_⟩
    · rcases List.mem_append.1 hx with hx | hx
      · exact h3 x hx
      · rw [List.mem_singleton.1 hx]; exact q2
    · have hfl := h2.flat
      rw [← h2.1, h1] at hfl
      rw [List.flatten_append] at hv
      rcases Nat.lt_or_ge j gs.flatten.length with hj | hj
      · rw [List.getElem?_append_left hj] at hv; exact h4 j v hv
      · rw [List.getElem?_append_right hj] at hv
        simp only [List.flatten_cons, List.flatten_nil, List.append_nil] at hv
        have hlt : j - gs.flatten.length < cs'.length := (List.getElem?_eq_some_iff.1 hv).1
        have := k3 (j - gs.flatten.length) (by omega)
        rw [addr_add2, hv, ← hfl] at this
        rw [← this]; congr 2; omega
theorem arg_slice {X : Type} {t e : TypeId} {n : Nat} {R : Mem → List Value → X → Prop} {wf : X → Prop} (ht : P.underlying t = some (.slice e)) (hc : P.cellsOf t = 1) (hA : ArgB P w e n R wf) (hn : Nat.blt 0 n = true) :
    ArgB P w t 1 (RSl n R) (wfL wf) :=
  ⟨hc, fun enc fuel cs x h => by
    have hn' : 0 < n := by simpa [Nat.blt_eq] using hn
    rcases open_slice ht h with ⟨rfl, _⟩ | ⟨a, len, cap, m, f, D, Pl, rfl, _, hl, hm, hmm, _, hx⟩
    · exact ⟨[], ⟨none, 0, rfl, RdL.nil⟩, ⟨Nat.zero_le _, fun x h => by simp at h⟩, rfl, rfl⟩
    · have hmc : m = cap := by simpa using hmm
      obtain ⟨gs, xs, h1, h2, h3, h4⟩ := arg_rows hA enc a f (fun i => (D i, Pl i)) len (fun i hi => hx i (by omega))
      have hxl : xs.length = len := by rw [← h2.1, h1]
      subst hxl
      refine ⟨xs, ⟨some a, cap, rfl, hl, ?_⟩, ⟨by omega, h3⟩, rfl, rfl⟩
      by_cases h0 : xs = []
      · exact .inl h0
      right
      have hpos : 0 < gs.flatten.length := by
        rw [h2.flat]; exact Nat.mul_pos (List.length_pos_iff.2 h0) hn'
      have hc0 := h4 0 _ (List.getElem?_eq_getElem hpos)
      have hsp := World.cell?_spot hc0
      obtain ⟨b, o, spot⟩ := a
      have hspot : spot = none := by simpa [Addr.add] using hsp
      subst hspot
      refine ⟨b, o, gs, rfl, ?_, h2⟩
      have hobj : ∃ c e z, w.heap[b]? = some (.cells c e z) := by
        simp only [Addr.add, World.cell?] at hc0
        split at hc0
        · rename_i c e z hb; exact ⟨c, e, z, hb⟩
        · cases hc0
      obtain ⟨c, e', z, hb⟩ := hobj
      refine ⟨c, e', z, M0.has hb, fun j v hv => ?_⟩
      have := h4 j v hv
      rw [addr_add] at this
      simpa [World.cell?, hb] using this⟩
/-- A field. -/
theorem ArgB.fld {X : Type} {t : TypeId} {n : Nat} {R : Mem → List Value → X → Prop} {wf : X → Prop} (hA : ArgB P w t n R wf) {H : Type} {enc : TypeId × Value → H} {f : Nat} {cs : List Value} {off i : Nat} {xs : List (DataW H × List MemPlace)}
    (h : DataW.trod enc P w 0 (fun _ => true) true f t ((cs.drop off).take (P.cellsOf t)) = xs[i]?) (hi : i < xs.length) : ∃ y, R (M0 w) ((cs.drop off).take n) y ∧ wf y := by
  rw [hA.size, List.getElem?_eq_getElem hi] at h
  obtain ⟨y, h1, h2, _, _⟩ := hA.read enc f _ _ h
  exact ⟨y, h1, h2⟩
end
end Go.Pel

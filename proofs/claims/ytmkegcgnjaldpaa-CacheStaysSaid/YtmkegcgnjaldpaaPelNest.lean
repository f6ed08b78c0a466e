/- Own lists whose elements own memory too: lists of records with own lists, of pointers to own records. -/
import Derived.Test.YtmkegcgnjaldpaaPelSorted
namespace Go.Pel
open Go.RowKit

/-- Cells as they are. -/
def Raw : Mem → List Value → List Value → Prop := fun _ cs y => cs = y
theorem mono_raw : Mono Raw := fun _ _ _ _ _ h => h
theorem const_raw : Const Raw := fun _ _ _ _ h => h

section
variable {X : Type} {RO : Mem → List Value → X → List Chunk → Prop} {sz : Nat}
def MonoE (RO : Mem → List Value → X → List Chunk → Prop) : Prop := ∀ (F G : Mem) (cs : List Value) (x : X) (φ : List Chunk), F.le G → RO F cs x φ → RO G cs x φ
def ConstE (RO : Mem → List Value → X → List Chunk → Prop) : Prop := ∀ (F G : Mem) (cs : List Value) (x : X) (φ : List Chunk), RO F cs x φ → RO G cs x φ
/-- What the elements own. -/
def InE (RO : Mem → List Value → X → List Chunk → Prop) (F : Mem) (ys : List (List Value)) (xs : List X) (ψ : List Chunk) : Prop :=
  ∃ φs : List (List Chunk), ψ.Perm φs.flatten ∧ φs.length = xs.length ∧ ys.length = xs.length ∧ ∀ (j : Nat) (y : List Value) (x : X) (φ : List Chunk), ys[j]? = some y → xs[j]? = some x → φs[j]? = some φ → RO F y x φ
/-- .. but for that of place 'k'. -/
def InH (RO : Mem → List Value → X → List Chunk → Prop) (F : Mem) (k : Nat) (ys : List (List Value)) (xs : List X) (ψ : List Chunk) : Prop :=
  ∃ φs : List (List Chunk), ψ.Perm φs.flatten ∧ φs.length = xs.length ∧ ys.length = xs.length ∧ φs[k]? = some [] ∧ ∀ (j : Nat) (y : List Value) (x : X) (φ : List Chunk), j ≠ k → ys[j]? = some y → xs[j]? = some x → φs[j]? = some φ → RO F y x φ
theorem InE.len {F : Mem} {ys : List (List Value)} {xs : List X} {ψ} (h : InE RO F ys xs ψ) : xs.length = ys.length := by obtain ⟨φs, _, _, h3, _⟩ := h; exact h3.symm
theorem InH.len {F : Mem} {k : Nat} {ys : List (List Value)} {xs : List X} {ψ} (h : InH RO F k ys xs ψ) : xs.length = ys.length := by obtain ⟨φs, _, _, h3, _⟩ := h; exact h3.symm
theorem InE.mono (hR : MonoE RO) {F G : Mem} (hl : F.le G) {ys : List (List Value)} {xs : List X} {ψ} (h : InE RO F ys xs ψ) : InE RO G ys xs ψ := by
  obtain ⟨φs, h1, h2, h3, h4⟩ := h
  exact ⟨φs, h1, h2, h3, fun j y x φ k1 k2 k3 => hR _ _ _ _ _ hl (h4 j y x φ k1 k2 k3)⟩
theorem InE.re (hR : ConstE RO) {F G : Mem} {ys : List (List Value)} {xs : List X} {ψ} (h : InE RO F ys xs ψ) : InE RO G ys xs ψ := by
  obtain ⟨φs, h1, h2, h3, h4⟩ := h
  exact ⟨φs, h1, h2, h3, fun j y x φ k1 k2 k3 => hR _ _ _ _ _ (h4 j y x φ k1 k2 k3)⟩
theorem InH.mono (hR : MonoE RO) {F G : Mem} (hl : F.le G) {k : Nat} {ys : List (List Value)} {xs : List X} {ψ} (h : InH RO F k ys xs ψ) : InH RO G k ys xs ψ := by
  obtain ⟨φs, h1, h2, h3, h0, h4⟩ := h
  exact ⟨φs, h1, h2, h3, h0, fun j y x φ kk k1 k2 k3 => hR _ _ _ _ _ hl (h4 j y x φ kk k1 k2 k3)⟩
theorem InH.re (hR : ConstE RO) {F G : Mem} {k : Nat} {ys : List (List Value)} {xs : List X} {ψ} (h : InH RO F k ys xs ψ) : InH RO G k ys xs ψ := by
  obtain ⟨φs, h1, h2, h3, h0, h4⟩ := h
  exact ⟨φs, h1, h2, h3, h0, fun j y x φ kk k1 k2 k3 => hR _ _ _ _ _ (h4 j y x φ kk k1 k2 k3)⟩
theorem InE.nil {F : Mem} : InE RO F [] ([] : List X) [] := ⟨[], List.Perm.refl _, rfl, rfl, fun j y x φ h => by simp at h⟩
theorem perm_hole {α : Type} {l : List (List α)} {k : Nat} {a : List α} (h : l[k]? = some a) (b : List α) : (a ++ (l.set k b).flatten).Perm (b ++ l.flatten) := by
  induction l generalizing k with
  | nil => simp at h
  | cons x l ih =>
    cases k with
    | zero =>
      simp at h; subst h
      simp only [List.set_cons_zero, List.flatten_cons]
      rw [← List.append_assoc, ← List.append_assoc]
      exact (List.perm_append_comm).append_right _
    | succ k =>
      have := ih (k := k) (by simpa using h)
      simp only [List.set_cons_succ, List.flatten_cons]
      have e1 : (a ++ (x ++ (l.set k b).flatten)).Perm (x ++ (a ++ (l.set k b).flatten)) := by
        rw [← List.append_assoc, ← List.append_assoc]
        exact (List.perm_append_comm).append_right _
      have e2 : (x ++ (b ++ l.flatten)).Perm (b ++ (x ++ l.flatten)) := by
        rw [← List.append_assoc, ← List.append_assoc]
        exact (List.perm_append_comm).append_right _
      exact e1.trans ((this.append_left x).trans e2)
theorem InE.open {F : Mem} {ys : List (List Value)} {xs : List X} {ψ} (h : InE RO F ys xs ψ) {k : Nat} {x : X} (hx : xs[k]? = some x) :
    ∃ y φ ψ', ys[k]? = some y ∧ RO F y x φ ∧ InH RO F k ys xs ψ' ∧ ψ.Perm (φ ++ ψ') := by
  obtain ⟨φs, h1, h2, h3, h4⟩ := h
  have hk : k < xs.length := (List.getElem?_eq_some_iff.1 hx).1
  have hφ : φs[k]? = some φs[k] := List.getElem?_eq_getElem (by omega)
  have hy : ys[k]? = some ys[k] := List.getElem?_eq_getElem (by omega)
  refine ⟨ys[k], φs[k], (φs.set k []).flatten, hy, h4 k _ _ _ hy hx hφ, ⟨φs.set k [], List.Perm.refl _, by simp [h2], h3, by rw [List.getElem?_set_self (by omega)], fun j y x φ hj k1 k2 k3 => ?_⟩, h1.trans ?_⟩
  · rw [List.getElem?_set_ne (by omega)] at k3
    exact h4 j y x φ k1 k2 k3
  · have := perm_hole hφ []
    simpa using this.symm
theorem InH.set {F : Mem} {k : Nat} {ys : List (List Value)} {xs : List X} {ψ} (h : InH RO F k ys xs ψ) (y' : List Value) : InH RO F k (ys.set k y') xs ψ := by
  obtain ⟨φs, h1, h2, h3, h0, h4⟩ := h
  refine ⟨φs, h1, h2, by simp [h3], h0, fun j y x φ hj k1 k2 k3 => ?_⟩
  rw [List.getElem?_set_ne (by omega)] at k1
  exact h4 j y x φ hj k1 k2 k3
theorem InH.close {F : Mem} {k : Nat} {ys : List (List Value)} {xs : List X} {ψ'} (h : InH RO F k ys xs ψ') {y : List Value} (hy : ys[k]? = some y) {x' : X} {φ : List Chunk} (r : RO F y x' φ) : InE RO F ys (xs.set k x') (φ ++ ψ') := by
  obtain ⟨φs, h1, h2, h3, h0, h4⟩ := h
  refine ⟨φs.set k φ, ?_, by simp [h2], by simp [h3], fun j y2 x2 φ2 k1 k2 k3 => ?_⟩
  · have := perm_hole h0 φ
    simp only [List.nil_append] at this
    exact (h1.append_left φ).trans this.symm
  · by_cases hj : j = k
    · subst hj
      have hl : j < φs.length := (List.getElem?_eq_some_iff.1 h0).1
      rw [List.getElem?_set_self (by omega)] at k2 k3
      cases k2; cases k3
      rw [hy] at k1; cases k1
      exact r
    · rw [List.getElem?_set_ne (by omega)] at k2 k3
      exact h4 j y2 x2 φ2 hj k1 k2 k3
theorem set_same {xs : List X} {k : Nat} {x : X} (h : xs[k]? = some x) : xs.set k x = xs := by
  have hk := (List.getElem?_eq_some_iff.1 h).1
  have he := (List.getElem?_eq_some_iff.1 h).2
  rw [← he]
  exact List.set_getElem_self hk
theorem InE.push {F : Mem} {ys : List (List Value)} {xs : List X} {ψ} (h : InE RO F ys xs ψ) {y : List Value} {x : X} {φ : List Chunk} (r : RO F y x φ) : InE RO F (ys ++ [y]) (xs ++ [x]) (ψ ++ φ) := by
  obtain ⟨φs, h1, h2, h3, h4⟩ := h
  refine ⟨φs ++ [φ], by rw [List.flatten_append]; simpa using h1.append_right φ, by simp [h2], by simp [h3], fun j y2 x2 φ2 k1 k2 k3 => ?_⟩
  by_cases hj : j < xs.length
  · rw [List.getElem?_append_left (by omega)] at k1 k2 k3
    exact h4 j y2 x2 φ2 k1 k2 k3
  · rw [List.getElem?_append_right (by omega)] at k1 k2 k3
    have e : j - xs.length = 0 := by
      have := (List.getElem?_eq_some_iff.1 k2).1
      simp at this; omega
    rw [h3, e] at k1; rw [e] at k2; rw [h2, e] at k3
    cases k1; cases k2; cases k3
    exact r

/-- An own list whose elements own memory too. -/
def OwnE (sz : Nat) (RO : Mem → List Value → X → List Chunk → Prop) (F : Mem) (e : TypeId) (a : Option Addr) (c : Nat) (xs : List X) (ψ : List Chunk) : Prop :=
  ∃ ys ψo ψi, ψ = ψo ++ ψi ∧ OwnL sz Raw F e a c ys ψo ∧ InE RO F ys xs ψi
theorem OwnL.raw {F G : Mem} {e a c} {ys : List (List Value)} {ψ} (h : OwnL sz Raw F e a c ys ψ) : OwnL sz Raw G e a c ys ψ := h.re const_raw
theorem OwnE.mono (hR : MonoE RO) {F G : Mem} (hl : F.le G) {e a c} {xs : List X} {ψ} (h : OwnE sz RO F e a c xs ψ) : OwnE sz RO G e a c xs ψ := by
  obtain ⟨ys, ψo, ψi, h1, h2, h3⟩ := h
  exact ⟨ys, ψo, ψi, h1, h2.raw, h3.mono hR hl⟩
theorem OwnE.re (hR : ConstE RO) {F G : Mem} {e a c} {xs : List X} {ψ} (h : OwnE sz RO F e a c xs ψ) : OwnE sz RO G e a c xs ψ := by
  obtain ⟨ys, ψo, ψi, h1, h2, h3⟩ := h
  exact ⟨ys, ψo, ψi, h1, h2.raw, h3.re hR⟩
theorem OwnE.nil {F : Mem} {e} : OwnE sz RO F e none 0 ([] : List X) [] := ⟨[], [], [], rfl, OwnL.nil, InE.nil⟩
theorem OwnE.cap {F : Mem} {e a c} {xs : List X} {ψ} (h : OwnE sz RO F e a c xs ψ) : xs.length ≤ c := by
  obtain ⟨ys, ψo, ψi, h1, h2, h3⟩ := h
  rw [h3.len]; exact h2.1
/-- The cell of a place of the outer row. -/
def CellAt (ψ : List Chunk) (j : Nat) (v : Value) : Prop := ∃ B cs e r, ψ = (B, row cs e) :: r ∧ cs[j]? = some v
theorem flatten1 {ys : List (List Value)} (h : ∀ c ∈ ys, c.length = 1) : ∀ {j : Nat} {v : Value}, ys.flatten[j]? = some v ↔ ys[j]? = some [v] := by
  induction ys with
  | nil => intro j v; simp
  | cons c ys ih =>
    intro j v
    have hc := h c (List.mem_cons_self ..)
    obtain ⟨u, rfl⟩ := List.length_eq_one_iff.1 hc
    cases j with
    | zero => simp
    | succ j => simpa using ih (fun c' hc' => h c' (List.mem_cons_of_mem _ hc')) (j := j) (v := v)
theorem Rs.raw {F : Mem} {gs ys : List (List Value)} (h : Rs sz Raw F gs ys) : gs = ys := by
  apply List.ext_getElem? 
  intro j
  cases hg : gs[j]? with
  | none =>
    have := List.getElem?_eq_none_iff.1 hg
    rw [List.getElem?_eq_none (by rw [← h.1]; exact this)]
  | some c =>
    have hj := (List.getElem?_eq_some_iff.1 hg).1
    have hj' : j < ys.length := by rw [← h.1]; exact hj
    have hy : ys[j]? = some ys[j] := List.getElem?_eq_getElem hj'
    have := (h.2 j c _ hg hy).2.1
    rw [hy]
    exact congrArg some this
theorem CellAt.get {F : Mem} {e a c} {ys : List (List Value)} {ψo ψi : List Chunk} (hO : OwnL 1 Raw F e a c ys ψo) {j : Nat} {v : Value} (h : CellAt (ψo ++ ψi) j v) (hj : j < ys.length) : ys[j]? = some [v] := by
  rcases hO.2 with ⟨h0, _⟩ | ⟨b, gs, sp, _, rfl, h3, h4⟩
  · have := hO.1; omega
  · obtain ⟨B, cs, e', r, h5, h6⟩ := h
    have hg := h3.raw
    subst hg
    simp only [List.cons_append, List.nil_append, List.cons.injEq, Prod.mk.injEq] at h5
    have e1 : cs = gs.flatten ++ sp := by
      have := h5.1.2
      simp only [row, Obj.cells.injEq] at this
      exact (List.toArray_inj this.1).symm
    rw [e1, List.getElem?_append_left (by rw [h3.flat]; omega)] at h6
    exact (flatten1 h3.lens).1 h6
theorem CellAt.mk {F : Mem} {e a c} {ys : List (List Value)} {ψo ψi : List Chunk} (hO : OwnL 1 Raw F e a c ys ψo) {j : Nat} {v : Value} (h : ys[j]? = some [v]) : CellAt (ψo ++ ψi) j v := by
  have hj := (List.getElem?_eq_some_iff.1 h).1
  rcases hO.2 with ⟨h0, _⟩ | ⟨b, gs, sp, _, rfl, h3, h4⟩
  · have := hO.1; omega
  · have hg := h3.raw
    subst hg
    refine ⟨b, _, _, _, rfl, ?_⟩
    rw [List.getElem?_append_left (by rw [h3.flat]; omega)]
    exact (flatten1 h3.lens).2 h

/-! ### Rules -/
variable {P : Program} {ops : Array Oper} {Q : Post} {S : World → Prop} {n : Nat} {E : Env} {F F0 F1 : Mem} {Φ Φ0 : List (List Chunk)}
variable {i d ty : Nat} {pos : String} {af : Array Edge} {g : Option (Nat × Bool)} {rest : List (Nat × Bool)}
theorem WO.reg {l} {Φ' : List (List Chunk)} (hp : Φ'.flatten.Perm Φ.flatten) (h : WO P ops Q S l n E F Φ') : WO P ops Q S l n E F Φ := fun a w hc hs hS => h a w hc (hs.perm hp) hS
theorem getI_len {Y : Type} {xs : List X} {ys : List Y} {q : Int} {x : X} (hl : xs.length = ys.length) (h : getI xs q = some x) : ∃ y, getI ys q = some y ∧ ys[q.toNat]? = some y := by
  obtain ⟨h0, h1, _⟩ := getI_some h
  have hk : q.toNat < ys.length := by omega
  exact ⟨ys[q.toNat], by unfold getI; rw [if_pos h0, List.getElem?_eq_getElem hk], List.getElem?_eq_getElem hk⟩
theorem erase_perm {α : Type} {l : List (List α)} {k : Nat} {a : List α} (h : l[k]? = some a) : (a ++ (l.eraseIdx k).flatten).Perm l.flatten := by
  induction l generalizing k with
  | nil => simp at h
  | cons x l ih =>
    cases k with
    | zero => simp at h; subst h; simp
    | succ k =>
      have := ih (k := k) (by simpa using h)
      simp only [List.eraseIdx_cons_succ, List.flatten_cons]
      refine List.Perm.trans ?_ (this.append_left x)
      rw [← List.append_assoc, ← List.append_assoc]
      exact (List.perm_append_comm).append_right _
theorem WC.reg {c : Code} {Φ' : List (List Chunk)} (hp : Φ'.flatten.Perm Φ.flatten) (h : WC P c Q n E F Φ') : WC P c Q n E F Φ := fun a w hc hs => h a w hc (hs.perm hp)
theorem At.reg {K : Act → World → Prop} {Φ' : List (List Chunk)} (hp : Φ'.flatten.Perm Φ.flatten) (h : At K n E F Φ') : At K n E F Φ := fun a w hc hs => h a w hc (hs.perm hp)
theorem un_perm {gi : Nat} {ψo ψi : List Chunk} (hΦ : Φ[gi]? = some (ψo ++ ψi)) : (ψo :: ψi :: Φ.eraseIdx gi).flatten.Perm Φ.flatten := by
  refine List.Perm.trans ?_ (erase_perm hΦ)
  simp [List.append_assoc]
theorem openI_perm {gi : Nat} {ψ φ ψ' : List Chunk} (hΦ : Φ[gi]? = some ψ) (h : ψ.Perm (φ ++ ψ')) : (φ :: ψ' :: Φ.eraseIdx gi).flatten.Perm Φ.flatten := by
  refine List.Perm.trans ?_ (erase_perm hΦ)
  simp only [List.flatten_cons, ← List.append_assoc]
  exact h.symm.append_right _
theorem InE.take {ys : List (List Value)} {xs : List X} {ψ : List Chunk} (hI : InE RO F1 ys xs ψ) {q : Int} {x : X} (hx : getI xs q = some x) : ∃ y φ ψ', getI ys q = some y ∧ RO F1 y x φ ∧ InH RO F1 q.toNat ys xs ψ' ∧ ψ.Perm (φ ++ ψ') := by
  obtain ⟨_, _, hk⟩ := getI_some hx
  obtain ⟨y, hy, hyk⟩ := getI_len hI.len hx
  obtain ⟨y', φ, ψ', h1, h2, h3, h4⟩ := hI.open hk
  rw [hyk] at h1; cases h1
  exact ⟨y, φ, ψ', hy, h2, h3, h4⟩
theorem WO.unE {l} {e : TypeId} {a : Option Addr} {c : Nat} {xs : List X} {ψ : List Chunk} (gi : Nat) (hE : OwnE sz RO F1 e a c xs ψ) (hΦ : Φ[gi]? = some ψ)
    (h : ∀ ys ψo ψi, ψ = ψo ++ ψi → OwnL sz Raw F1 e a c ys ψo → InE RO F1 ys xs ψi → WO P ops Q S l n E F (ψo :: ψi :: Φ.eraseIdx gi)) : WO P ops Q S l n E F Φ := by
  obtain ⟨ys, ψo, ψi, rfl, hO, hI⟩ := hE
  exact WO.reg (un_perm hΦ) (h ys ψo ψi rfl hO hI)
theorem WO.openI {l} {ys : List (List Value)} {xs : List X} {ψ : List Chunk} {q : Int} {x : X} (gi : Nat) (hI : InE RO F1 ys xs ψ) (hΦ : Φ[gi]? = some ψ) (hx : getI xs q = some x)
    (h : ∀ y φ ψ', getI ys q = some y → RO F1 y x φ → InH RO F1 q.toNat ys xs ψ' → WO P ops Q S l n E F (φ :: ψ' :: Φ.eraseIdx gi)) : WO P ops Q S l n E F Φ := by
  obtain ⟨y, φ, ψ', h1, h2, h3, h4⟩ := hI.take hx
  exact WO.reg (openI_perm hΦ h4) (h y φ ψ' h1 h2 h3)
theorem WO.closeI {l} {ys : List (List Value)} {y : List Value} {xs : List X} {ψ' : List Chunk} {q : Int} (G : List (List Chunk)) (Φ : List (List Chunk)) (x' : X) (hH : InH RO F1 q.toNat ys xs ψ') (hy : getI ys q = some y) (hR : RO F1 y x' G.flatten)
    (h : ∀ ψ, InE RO F1 ys (xs.set q.toNat x') ψ → WO P ops Q S l n E F (ψ :: Φ)) : WO P ops Q S l n E F (G ++ ψ' :: Φ) :=
  WO.reg (by simp) (h _ (hH.close (getI_some hy).2.2 hR))
theorem WO.closeI0 {l} {ys : List (List Value)} {y : List Value} {xs : List X} {ψ' : List Chunk} {q : Int} {x : X} (G : List (List Chunk)) (Φ : List (List Chunk)) (hx : getI xs q = some x) (hH : InH RO F1 q.toNat ys xs ψ') (hy : getI ys q = some y) (hR : RO F1 y x G.flatten)
    (h : ∀ ψ, InE RO F1 ys xs ψ → WO P ops Q S l n E F (ψ :: Φ)) : WO P ops Q S l n E F (G ++ ψ' :: Φ) :=
  WO.closeI G Φ x hH hy hR fun ψ h2 => h ψ (by rw [set_same (getI_some hx).2.2] at h2; exact h2)
theorem WO.packE {l} {e : TypeId} {a : Option Addr} {c : Nat} {xs : List X} {ψo ψi : List Chunk} {ys : List (List Value)} (Φ : List (List Chunk)) (hO : OwnL sz Raw F1 e a c ys ψo) (hI : InE RO F1 ys xs ψi)
    (h : ∀ ψ, ψ = ψo ++ ψi → OwnE sz RO F1 e a c xs ψ → WO P ops Q S l n E F (ψ :: Φ)) : WO P ops Q S l n E F (ψo :: ψi :: Φ) :=
  WO.reg (by simp) (h _ rfl ⟨ys, ψo, ψi, rfl, hO, hI⟩)
theorem WO.flatE {l} (G : List (List Chunk)) (Φ : List (List Chunk)) (h : WO P ops Q S l n E F (G ++ Φ)) : WO P ops Q S l n E F (G.flatten :: Φ) := WO.reg (by simp) h
theorem WC.unE {cd : Code} {e : TypeId} {a : Option Addr} {c : Nat} {xs : List X} {ψ : List Chunk} (gi : Nat) (hE : OwnE sz RO F1 e a c xs ψ) (hΦ : Φ[gi]? = some ψ)
    (h : ∀ ys ψo ψi, ψ = ψo ++ ψi → OwnL sz Raw F1 e a c ys ψo → InE RO F1 ys xs ψi → WC P cd Q n E F (ψo :: ψi :: Φ.eraseIdx gi)) : WC P cd Q n E F Φ := by
  obtain ⟨ys, ψo, ψi, rfl, hO, hI⟩ := hE
  exact WC.reg (un_perm hΦ) (h ys ψo ψi rfl hO hI)
theorem WC.openI {cd : Code} {ys : List (List Value)} {xs : List X} {ψ : List Chunk} {q : Int} {x : X} (gi : Nat) (hI : InE RO F1 ys xs ψ) (hΦ : Φ[gi]? = some ψ) (hx : getI xs q = some x)
    (h : ∀ y φ ψ', getI ys q = some y → RO F1 y x φ → InH RO F1 q.toNat ys xs ψ' → WC P cd Q n E F (φ :: ψ' :: Φ.eraseIdx gi)) : WC P cd Q n E F Φ := by
  obtain ⟨y, φ, ψ', h1, h2, h3, h4⟩ := hI.take hx
  exact WC.reg (openI_perm hΦ h4) (h y φ ψ' h1 h2 h3)
theorem WC.closeI {cd : Code} {ys : List (List Value)} {y : List Value} {xs : List X} {ψ' : List Chunk} {q : Int} (G : List (List Chunk)) (Φ : List (List Chunk)) (x' : X) (hH : InH RO F1 q.toNat ys xs ψ') (hy : getI ys q = some y) (hR : RO F1 y x' G.flatten)
    (h : ∀ ψ, InE RO F1 ys (xs.set q.toNat x') ψ → WC P cd Q n E F (ψ :: Φ)) : WC P cd Q n E F (G ++ ψ' :: Φ) :=
  WC.reg (by simp) (h _ (hH.close (getI_some hy).2.2 hR))
theorem WC.closeI0 {cd : Code} {ys : List (List Value)} {y : List Value} {xs : List X} {ψ' : List Chunk} {q : Int} {x : X} (G : List (List Chunk)) (Φ : List (List Chunk)) (hx : getI xs q = some x) (hH : InH RO F1 q.toNat ys xs ψ') (hy : getI ys q = some y) (hR : RO F1 y x G.flatten)
    (h : ∀ ψ, InE RO F1 ys xs ψ → WC P cd Q n E F (ψ :: Φ)) : WC P cd Q n E F (G ++ ψ' :: Φ) :=
  WC.closeI G Φ x hH hy hR fun ψ h2 => h ψ (by rw [set_same (getI_some hx).2.2] at h2; exact h2)
theorem WC.packE {cd : Code} {e : TypeId} {a : Option Addr} {c : Nat} {xs : List X} {ψo ψi : List Chunk} {ys : List (List Value)} (Φ : List (List Chunk)) (hO : OwnL sz Raw F1 e a c ys ψo) (hI : InE RO F1 ys xs ψi)
    (h : ∀ ψ, ψ = ψo ++ ψi → OwnE sz RO F1 e a c xs ψ → WC P cd Q n E F (ψ :: Φ)) : WC P cd Q n E F (ψo :: ψi :: Φ) :=
  WC.reg (by simp) (h _ rfl ⟨ys, ψo, ψi, rfl, hO, hI⟩)
theorem WC.flatE {cd : Code} (G : List (List Chunk)) (Φ : List (List Chunk)) (h : WC P cd Q n E F (G ++ Φ)) : WC P cd Q n E F (G.flatten :: Φ) := WC.reg (by simp) h
theorem At.unE {K : Act → World → Prop} {e : TypeId} {a : Option Addr} {c : Nat} {xs : List X} {ψ : List Chunk} (gi : Nat) (hE : OwnE sz RO F1 e a c xs ψ) (hΦ : Φ[gi]? = some ψ)
    (h : ∀ ys ψo ψi, ψ = ψo ++ ψi → OwnL sz Raw F1 e a c ys ψo → InE RO F1 ys xs ψi → At K n E F (ψo :: ψi :: Φ.eraseIdx gi)) : At K n E F Φ := by
  obtain ⟨ys, ψo, ψi, rfl, hO, hI⟩ := hE
  exact At.reg (un_perm hΦ) (h ys ψo ψi rfl hO hI)
theorem At.openI {K : Act → World → Prop} {ys : List (List Value)} {xs : List X} {ψ : List Chunk} {q : Int} {x : X} (gi : Nat) (hI : InE RO F1 ys xs ψ) (hΦ : Φ[gi]? = some ψ) (hx : getI xs q = some x)
    (h : ∀ y φ ψ', getI ys q = some y → RO F1 y x φ → InH RO F1 q.toNat ys xs ψ' → At K n E F (φ :: ψ' :: Φ.eraseIdx gi)) : At K n E F Φ := by
  obtain ⟨y, φ, ψ', h1, h2, h3, h4⟩ := hI.take hx
  exact At.reg (openI_perm hΦ h4) (h y φ ψ' h1 h2 h3)
theorem At.closeI {K : Act → World → Prop} {ys : List (List Value)} {y : List Value} {xs : List X} {ψ' : List Chunk} {q : Int} (G : List (List Chunk)) (Φ : List (List Chunk)) (x' : X) (hH : InH RO F1 q.toNat ys xs ψ') (hy : getI ys q = some y) (hR : RO F1 y x' G.flatten)
    (h : ∀ ψ, InE RO F1 ys (xs.set q.toNat x') ψ → At K n E F (ψ :: Φ)) : At K n E F (G ++ ψ' :: Φ) :=
  At.reg (by simp) (h _ (hH.close (getI_some hy).2.2 hR))
theorem At.closeI0 {K : Act → World → Prop} {ys : List (List Value)} {y : List Value} {xs : List X} {ψ' : List Chunk} {q : Int} {x : X} (G : List (List Chunk)) (Φ : List (List Chunk)) (hx : getI xs q = some x) (hH : InH RO F1 q.toNat ys xs ψ') (hy : getI ys q = some y) (hR : RO F1 y x G.flatten)
    (h : ∀ ψ, InE RO F1 ys xs ψ → At K n E F (ψ :: Φ)) : At K n E F (G ++ ψ' :: Φ) :=
  At.closeI G Φ x hH hy hR fun ψ h2 => h ψ (by rw [set_same (getI_some hx).2.2] at h2; exact h2)
theorem At.packE {K : Act → World → Prop} {e : TypeId} {a : Option Addr} {c : Nat} {xs : List X} {ψo ψi : List Chunk} {ys : List (List Value)} (Φ : List (List Chunk)) (hO : OwnL sz Raw F1 e a c ys ψo) (hI : InE RO F1 ys xs ψi)
    (h : ∀ ψ, ψ = ψo ++ ψi → OwnE sz RO F1 e a c xs ψ → At K n E F (ψ :: Φ)) : At K n E F (ψo :: ψi :: Φ) :=
  At.reg (by simp) (h _ rfl ⟨ys, ψo, ψi, rfl, hO, hI⟩)
theorem At.flatE {K : Act → World → Prop} (G : List (List Chunk)) (Φ : List (List Chunk)) (h : At K n E F (G ++ Φ)) : At K n E F (G.flatten :: Φ) := At.reg (by simp) h
theorem getI_set {xs : List X} {q : Int} {x : X} (h : getI xs q = some x) (x' : X) : getI (xs.set q.toNat x') q = some x' := by
  obtain ⟨h0, h1, _⟩ := getI_some h
  unfold getI
  rw [if_pos h0, List.getElem?_set_self (by omega)]
/-- A place that is a pointer. -/
def PtrE (RO : Mem → List Value → X → List Chunk → Prop) : Prop := ∀ (F : Mem) (cs : List Value) (x : X) (φ : List Chunk), RO F cs x φ → ∃ b, cs = [.pointer (some ⟨b, 0, none⟩)]
theorem InE.ptr (hp : PtrE RO) {ys : List (List Value)} {xs : List X} {ψ : List Chunk} (hI : InE RO F1 ys xs ψ) {q : Int} {x : X} (hx : getI xs q = some x) : ∃ b, getI ys q = some [.pointer (some ⟨b, 0, none⟩)] := by
  obtain ⟨y, φ, ψ', h1, h2, _⟩ := hI.take hx
  obtain ⟨b, rfl⟩ := hp _ _ _ _ h2
  exact ⟨b, h1⟩
theorem ptr_same {ys : List (List Value)} {q : Int} {b b' : Nat} (h : getI ys q = some [.pointer (some ⟨b, 0, none⟩)]) (h' : getI ys q = some [.pointer (some ⟨b', 0, none⟩)]) : b = b' := by
  rw [h] at h'; simpa using h'
theorem CellAt.same {e : TypeId} {a : Option Addr} {c : Nat} {ys : List (List Value)} {ψ ψo ψi : List Chunk} {q : Int} {b b' : Nat} (hψ : ψ = ψo ++ ψi) (hO : OwnL 1 Raw F1 e a c ys ψo) (hc : CellAt ψ q.toNat (.pointer (some ⟨b, 0, none⟩))) (hy : getI ys q = some [.pointer (some ⟨b', 0, none⟩)]) : b = b' := by
  subst hψ
  obtain ⟨_, h1, h2⟩ := getI_some hy
  have := CellAt.get hO hc (by omega)
  rw [h2] at this
  simpa using this.symm
theorem CellAt.of {e : TypeId} {a : Option Addr} {c : Nat} {ys : List (List Value)} {ψ ψo ψi : List Chunk} {q : Int} {v : Value} (hψ : ψ = ψo ++ ψi) (hO : OwnL 1 Raw F1 e a c ys ψo) (hy : getI ys q = some [v]) : CellAt ψ q.toNat v := by
  subst hψ
  exact CellAt.mk hO (getI_some hy).2.2
/-- One element more. -/
theorem WO.appendE {t tx e : TypeId} {x y : Operand} {bytes : Nat} {a : Option Addr} {l c : Nat} {xs zs : List X} {ψ : List Chunk} {v : Value} {u : List Value} {z : X} (gi : Nat) (G : List (List Chunk)) (hE : OwnE sz RO F1 e a c xs ψ) (hΦ : Φ[gi]? = some ψ) (hR : RO F1 u z G.flatten) (hsrc : SrcL P sz Raw F1 F Φ tx v [u]) (hz : app xs [z] = some zs)
    (ho : ops[i]? = some ⟨some d, .call ⟨.builtin .append, #[x, y], #[t, tx]⟩, ty, pos, af, g⟩) (hg : gOk ops E g = some true) (hn : Nat.blt d n = true) (hx : ev E x = some (.slice a l c)) (hl : l = xs.length) (hy : ev E y = some v)
    (ht : P.underlying t = some (.slice e)) (he : elemB P e sz bytes = true)
    (hS : ∀ Φ' w, Sat F Φ' w → S w) (h : ∀ a' c' ψ', OwnE sz RO F1 e a' c' zs ψ' → WO P ops Q S rest n ((d, .slice a' zs.length c') :: E) F (ψ' :: Φ.eraseIdx gi)) : WO P ops Q S ((i, false) :: rest) n E F (G ++ Φ) := by
  obtain ⟨ys, ψo, ψi, rfl, hO, hI⟩ := hE
  have hlen := hI.len
  unfold app at hz
  split at hz
  case isFalse => cases hz
  rename_i hlim
  cases hz
  subst hl
  refine WO.valW ho rfl hg hn fun act w hc hs _ => ?_
  have hs0 : Sat F Φ w := hs.of_sub rfl rfl G.flatten (by
    rw [List.flatten_append, List.append_assoc]
    exact (List.perm_append_comm).append_left _)
  have hs1 : Sat F (ψo :: (ψi ++ G.flatten) :: Φ.eraseIdx gi) w := hs.perm (by
    simp only [List.flatten_cons, List.flatten_append]
    have h1 := erase_perm hΦ
    have e1 : (ψo ++ (ψi ++ G.flatten ++ (Φ.eraseIdx gi).flatten)).Perm (G.flatten ++ (ψo ++ ψi ++ (Φ.eraseIdx gi).flatten)) := by
      rw [← List.append_assoc ψo, ← List.append_assoc ψo, ← List.append_assoc G.flatten]
      exact (List.perm_append_comm).append_right _
    exact e1.trans (h1.append_left _))
  have hsrc1 : SrcL P sz Raw F1 F (ψo :: (ψi ++ G.flatten) :: Φ.eraseIdx gi) tx v [u] := by
    obtain ⟨gs, k1, k2⟩ := hsrc
    refine ⟨gs, k1, fun w hw => k2 w (hw.of_sub rfl rfl G.flatten ?_)⟩
    simp only [List.flatten_cons, List.append_assoc]
    have h1 := erase_perm hΦ
    have e1 : (Φ.flatten ++ G.flatten).Perm (ψo ++ (ψi ++ (G.flatten ++ (Φ.eraseIdx gi).flatten))) := by
      refine ((h1.symm.append_right G.flatten)).trans ?_
      simp only [List.append_assoc]
      exact ((List.perm_append_comm.append_left _).append_left _)
    exact e1.append_left _
  obtain ⟨a', c', ψ', w', hr, hO', hs', _⟩ := run_appendO (P := P) ht he ty hO (gi := 0) rfl hsrc1 (by rw [← hlen]; simpa using hlim) hs1
  have hs2 : Sat F ((ψ' ++ (ψi ++ G.flatten)) :: Φ.eraseIdx gi) w' := hs'.perm (by simp)
  refine ⟨_, w', F, _, ?_, hs2, hS _ _ hs2, h a' c' _ ⟨ys ++ [u], ψ', ψi ++ G.flatten, rfl, hO', hI.push hR⟩⟩
  obtain ⟨cs, hb⟩ := run_builtin (P := P) (d := some d) (ty := ty) (pos := pos) (af := af) (g := g) .append [x, y] #[t, tx] act [.slice a xs.length c, v] (by simp [hc.ev hx, hc.ev hy]) w
  rw [hb]
  rw [← hlen] at hr
  simp only [builtin, hr, Result.andThen_ok, Sem.run_bind, Sem.run_pure]
  simp [hlen]
end
end Go.Pel
namespace Go.Pel
section
variable {P : Program} {Q : Post} {n : Nat} {E : Env} {F F1 : Mem} {Φ : List (List Chunk)}
theorem At.relen {K : Act → World → Prop} (t : Nat) {a : Option Addr} {k k' c : Nat} (ht : look E t = some (.slice a k c)) (hk : k = k') (h : At K n ((t, .slice a k' c) :: E) F Φ) : At K n E F Φ := fun act w hc hs => by
  subst hk
  exact h act w (hc.keep hc ht) hs
theorem At.recell {K : Act → World → Prop} (gi : Nat) {b e : Nat} {cs : List Value} (cs' : List Value) (hΦ : Φ[gi]? = some [(b, row cs e)]) (he : cs = cs') (h : At K n E F (Φ.set gi [(b, row cs' e)])) : At K n E F Φ := by
  subst he
  have hlt : gi < Φ.length := (List.getElem?_eq_some_iff.1 hΦ).1
  have hget : Φ[gi] = [(b, row cs e)] := by simpa [List.getElem?_eq_getElem hlt] using hΦ
  have : Φ.set gi [(b, row cs e)] = Φ := by conv => rhs; rw [← List.set_getElem_self hlt, hget]
  rw [this] at h; exact h
theorem CellAt.keep {X : Type} {RO : Mem → List Value → X → List Chunk → Prop} {e : TypeId} {a : Option Addr} {c : Nat} {ys : List (List Value)} {xs : List X} {ψ ψo ψi : List Chunk} (hψ : ψ = ψo ++ ψi) (hO : OwnL 1 Raw F e a c ys ψo) (hI : InE RO F1 ys xs ψi) {j : Nat} {v : Value} (hc : CellAt ψ j v) (ψi' : List Chunk) : CellAt (ψo ++ ψi') j v := by
  subst hψ
  rcases hO.2 with ⟨h0, rfl⟩ | ⟨b, gs, sp, _, rfl, h3, h4⟩
  · exfalso
    have hl : ys.length = 0 := by have := hO.1; omega
    have hx : xs = [] := List.eq_nil_of_length_eq_zero (by rw [hI.len, hl])
    subst hx
    obtain ⟨φs, k1, k2, _⟩ := hI
    have : φs = [] := List.eq_nil_of_length_eq_zero k2
    subst this
    obtain ⟨B, cs, e', r, h5, _⟩ := hc
    have := k1.length_eq
    simp at h5
    rw [h5] at this
    simp at this
  · obtain ⟨B, cs, e', r, h5, h6⟩ := hc
    refine ⟨b, gs.flatten ++ sp, e, ψi', rfl, ?_⟩
    simp only [List.cons_append, List.nil_append, List.cons.injEq, Prod.mk.injEq] at h5
    have := h5.1.2
    simp only [row, Obj.cells.injEq] at this
    rw [List.toArray_inj this.1]
    exact h6
end
end Go.Pel

/- A piece is taken out of an own list: slices.Delete. -/
import Derived.Test.YtmkegcgnjaldpaaPelStrs
namespace Go.Pel
open Go.RowKit

section
variable {P : Program} {ops : Array Oper} {Q : Post} {S : World → Prop} {n : Nat} {E : Env} {F F0 F1 : Mem} {Φ Φ0 : List (List Chunk)}
variable {i d ty : Nat} {pos : String} {af : Array Edge} {g : Option (Nat × Bool)} {rest : List (Nat × Bool)} {X : Type} {sz : Nat} {R : Mem → List Value → X → Prop}

/-- A slice of three indexes that nobody looks at. -/
theorem WO.slice3 {t e : TypeId} {x lo hi mx : Operand} {k1 k2 k3 : IntKind} {a : Option Addr} {len c : Nat} {l k m : Int} (hv : 0 ≤ l ∧ l ≤ k ∧ k ≤ m ∧ m ≤ c)
    (ho : ops[i]? = some ⟨some d, .slice t x (some lo) (some hi) (some mx), ty, pos, af, g⟩) (hg : gOk ops E g = some true) (hn : Nat.blt d n = true) (hx : ev E x = some (.slice a len c))
    (h1 : ev E lo = some (.int k1 l)) (h2 : ev E hi = some (.int k2 k)) (h3 : ev E mx = some (.int k3 m)) (ht : P.underlying t = some (.slice e)) (hsz : sizeB P e sz = true)
    (h : ∀ a' l' c', WO P ops Q S rest n ((d, .slice a' l' c') :: E) F Φ) : WO P ops Q S ((i, true) :: rest) n E F Φ := by
  refine WO.yield ho rfl hg hn (fun a' hc w _ => ?_) (h (if m.toNat = l.toNat then a else a.map (·.add (l.toNat * sz))) (k.toNat - l.toNat) (m.toNat - l.toNat))
  have e1 : 0 ≤ m ∧ m ≤ (c : Int) := by omega
  have e2 : 0 ≤ k ∧ k ≤ (m.toNat : Int) := by omega
  have e3 : 0 ≤ l ∧ l ≤ (k.toNat : Int) := by omega
  have e4 : k ≤ max m 0 := by omega
  have e5 : l ≤ max k 0 := by omega
  simp [execOp, hc.ev hx, hc.ev h1, hc.ev h2, hc.ev h3, Instr.sliceAt, run_underlying ht, Instr.slice, Instr.sliceBounds, Instr.sliceBound, asIntOf, run_sizeOf hsz, e1, e2, e3, e4, e5]

/-- The rest of an own list as what is appended. -/
theorem SrcL.ofTail {t e e' : TypeId} (gi : Nat) (ht : P.underlying t = some (.slice e')) {a a' : Option Addr} {c c' l : Nat} {xs : List X} {ψ} (h : OwnL sz R F1 e a c xs ψ) (hT : TailL sz a a' l (xs.length - l)) (hΦ : Φ[gi]? = some ψ) :
    SrcL P sz R F1 F Φ t (.slice a' (xs.length - l) c') (xs.drop l) := by
  have hdl : (xs.drop l).length = xs.length - l := List.length_drop ..
  rw [← hdl]
  rcases hT with h0 | ⟨b, rfl, rfl⟩
  · have : xs.drop l = [] := List.eq_nil_of_length_eq_zero (by omega)
    rw [this]
    cases a' with
    | none => exact ⟨[], Rs.nil, fun w _ => Src.ofNil w ht c'⟩
    | some a => exact ⟨[], Rs.nil, fun w _ => Src.ofSlice w ht a 0 c' [] (by simp) (fun j u h => by simp at h) (fun u h => by cases h)⟩
  · rcases h.2 with ⟨h1, h2⟩ | ⟨b', gs, sp, h1, rfl, h3, h4⟩
    · have h5 := h.1
      have : xs.drop l = [] := List.eq_nil_of_length_eq_zero (by omega)
      rw [this]
      exact ⟨[], Rs.nil, fun w _ => Src.ofSlice w ht _ 0 c' [] (by simp) (fun j u h => by simp at h) (fun u h => by cases h)⟩
    · cases h1
      refine ⟨gs.drop l, h3.drop l, fun w hs => Src.ofSlice w ht _ _ c' _ (h3.drop l).flat (fun j u hu => ?_) (h3.drop l).one'⟩
      have hm : (b, row (gs.flatten ++ sp) e) ∈ Φ.flatten := List.mem_flatten.2 ⟨_, List.mem_of_getElem? hΦ, by simp⟩
      have hj : j < (gs.drop l).flatten.length := (List.getElem?_eq_some_iff.1 hu).1
      have hle : l ≤ xs.length := by
        rcases Nat.le_total l xs.length with hl | hl
        · exact hl
        · have h0 := (h3.drop l).flat
          have h9 : (xs.drop l).length = 0 := by omega
          rw [h9, Nat.zero_mul] at h0
          omega
      rw [addr_add]
      have e1 : gs.flatten = (gs.take l).flatten ++ (gs.drop l).flatten := by rw [← List.flatten_append, List.take_append_drop]
      have e2 : (gs.take l).flatten.length = l * sz := by rw [(h3.take l).flat, List.length_take, Nat.min_eq_left hle]
      refine cell_of (hs.mem hm) ?_
      rw [List.getElem?_toArray, e1, List.append_assoc, ← e2, List.getElem?_append_right (by omega), Nat.add_sub_cancel_left, List.getElem?_append_left hj]
      exact hu

/-- The front of an own list, with its rest behind a gap. -/
theorem WO.appendCut {t tx e : TypeId} {x y : Operand} {bytes : Nat} {a a1 a2 : Option Addr} {l c c2 m : Nat} {xs ys : List X} {i0 j0 : Int} {ψ : List Chunk} (gi : Nat) (hO : OwnL sz R F1 e a c xs ψ) (hO1 : OwnL sz R F1 e a1 c ys ψ) (hv : subL xs 0 i0 = some ys) (hT : TailL sz a a2 j0.toNat (xs.length - j0.toNat)) (hij : i0 ≤ j0 ∧ j0 ≤ xs.length) (hlim : xs.length ≤ lim) (hΦ : Φ[gi]? = some ψ)
    (ho : ops[i]? = some ⟨some d, .call ⟨.builtin .append, #[x, y], #[t, tx]⟩, ty, pos, af, g⟩) (hg : gOk ops E g = some true) (hn : Nat.blt d n = true) (hx : ev E x = some (.slice a1 l c)) (hl : l = ys.length) (hy : ev E y = some (.slice a2 m c2)) (hm : m = xs.length - j0.toNat)
    (ht : P.underlying t = some (.slice e)) (htx : P.underlying tx = some (.slice e)) (he : elemB P e sz bytes = true)
    (hS : ∀ ψ' w, Sat F (Φ.set gi ψ') w → S w) (h : ∀ ψ', OwnL sz R F1 e a1 c (ys ++ xs.drop j0.toNat) ψ' → xs.length ≤ c → WO P ops Q S rest n ((d, .slice a1 (ys ++ xs.drop j0.toNat).length c) :: E) F (Φ.set gi ψ')) : WO P ops Q S ((i, false) :: rest) n E F Φ := by
  unfold subL at hv
  split at hv
  case isFalse => cases hv
  rename_i hb
  have hyl : ys.length = i0.toNat := by
    cases hv
    simp only [List.length_drop, List.length_take]; omega
  clear hv
  subst hl; subst hm
  have hlen : ys.length + (xs.drop j0.toNat).length ≤ xs.length := by rw [hyl, List.length_drop]; omega
  refine WO.valW ho rfl hg hn fun act w hc hs _ => ?_
  obtain ⟨a', c', ψ', w', hr, hO', hs', hin⟩ := run_appendO (P := P) ht he ty hO1 hΦ (SrcL.ofTail (F := F) (c' := c2) gi htx hO hT hΦ) (by unfold lim at *; omega) hs
  obtain ⟨rfl, rfl⟩ := hin (by have := hO.1; omega)
  refine ⟨_, w', F, _, ?_, hs', hS _ _ hs', h ψ' hO' hO.1⟩
  obtain ⟨cs, hb⟩ := run_builtin (P := P) (d := some d) (ty := ty) (pos := pos) (af := af) (g := g) .append [x, y] #[t, tx] act [.slice a' ys.length c', .slice a2 (xs.length - j0.toNat) c2] (by simp [hc.ev hx, hc.ev hy]) w
  rw [hb]
  simp [builtin, hr]

/-- What lies behind an own list, up to its capacity. -/
def SpareL (sz : Nat) (a a' : Option Addr) (l m c : Nat) : Prop := l + m ≤ c ∧ (m = 0 ∨ ∃ b, a = some ⟨b, 0, none⟩ ∧ a' = some ⟨b, l * sz, none⟩)
theorem WO.sliceSpare {t e : TypeId} {x lo hi : Operand} {kk k2 : IntKind} {a : Option Addr} {len c : Nat} {xs : List X} {k : Int} {ψ : List Chunk} (hO : OwnL sz R F1 e a c xs ψ) (hv : (xs.length : Int) ≤ k ∧ k ≤ c)
    (ho : ops[i]? = some ⟨some d, .slice t x (some lo) (some hi) none, ty, pos, af, g⟩) (hg : gOk ops E g = some true) (hn : Nat.blt d n = true) (hx : ev E x = some (.slice a len c)) (hlen : len = xs.length) (h1 : ev E lo = some (.int kk (xs.length : Int))) (h2 : ev E hi = some (.int k2 k))
    (ht : P.underlying t = some (.slice e)) (hsz : sizeB P e sz = true)
    (h : ∀ a' c', SpareL sz a a' xs.length (k.toNat - xs.length) c → WO P ops Q S rest n ((d, .slice a' (k.toNat - xs.length) c') :: E) F Φ) : WO P ops Q S ((i, true) :: rest) n E F Φ := by
  subst hlen
  have hT : SpareL sz a (if c = xs.length then a else a.map (·.add (xs.length * sz))) xs.length (k.toNat - xs.length) c := by
    refine ⟨by omega, ?_⟩
    by_cases hc : c = xs.length
    · left; omega
    · rw [if_neg hc]
      rcases hO.2 with ⟨h0, _⟩ | ⟨b, gs, sp, h1, _⟩
      · left; omega
      · right; exact ⟨b, h1, by rw [h1]; simp [addr_add]⟩
  refine WO.yield ho rfl hg hn (fun a' hc w _ => ?_) (h _ (c - xs.length) hT)
  have e2 : 0 ≤ k ∧ k ≤ (c : Int) := by omega
  have e3 : xs.length ≤ k.toNat := by omega
  simp [execOp, hc.ev hx, hc.ev h1, hc.ev h2, Instr.sliceAt, run_underlying ht, Instr.slice, Instr.sliceBounds, Instr.sliceBound, asIntOf, run_sizeOf hsz, e2, e3]
theorem WO.clearSpare {t e : TypeId} {x : Operand} {a a' : Option Addr} {c c' m : Nat} {xs : List X} {ψ : List Chunk} {z : Value} {zs : List Value} (gi : Nat) (hO : OwnL sz R F1 e a c xs ψ) (hT : SpareL sz a a' xs.length m c) (hΦ : Φ[gi]? = some ψ)
    (hz : zeroB P e z) (hzs : z.cells = zs.toArray) (hz0 : zs.length = sz) (hsz0 : Nat.blt 0 sz = true) (hone : zs.all Value.oneCell' = true)
    (ho : ops[i]? = some ⟨none, .call ⟨.builtin .clear, #[x], #[t]⟩, ty, pos, af, g⟩) (hg : gOk ops E g = some true) (hx : ev E x = some (.slice a' m c')) (ht : P.underlying t = some (.slice e))
    (hS : ∀ ψ' w, Sat F (Φ.set gi ψ') w → S w) (h : ∀ ψ', OwnL sz R F1 e a c xs ψ' → WO P ops Q S rest n E F (Φ.set gi ψ')) : WO P ops Q S ((i, false) :: rest) n E F Φ := by
  have hszp : 0 < sz := by simpa [Nat.blt_eq] using hsz0
  refine WO.act ho hg fun act w hc hs _ => ?_
  unfold Oper.wp
  obtain ⟨cs, hbr⟩ := run_builtin (P := P) (d := none) (ty := ty) (pos := pos) (af := af) (g := g) .clear [x] #[t] act [.slice a' m c'] (by simp [hc.ev hx]) w
  rw [hbr]
  obtain ⟨hmc, hT⟩ := hT
  by_cases hm : m = 0
  · subst hm
    have hlt : gi < Φ.length := (List.getElem?_eq_some_iff.1 hΦ).1
    have hset : Φ.set gi ψ = Φ := by conv => rhs; rw [← List.set_getElem_self hlt]
                                     congr 1
                                     simpa [List.getElem?_eq_getElem hlt] using hΦ.symm
    have h2 := h ψ hO
    rw [hset] at h2
    have hs2 := hS ψ w (by rw [hset]; exact hs)
    have hr : (Builtin.clear_ #[t] ty #[.slice a' 0 c']).run P w = .ok (.tuple #[]) w := by
      cases a' <;> simp [Builtin.clear_, run_underlying ht]
    simp only [builtin, hr, Result.andThen_ok, Sem.run_bind, Sem.run_pure]
    exact ⟨hs2, h2 _ _ hc hs hs2⟩
  · rcases hT with hT | ⟨b, rfl, rfl⟩
    · exact absurd hT hm
    rcases hO.2 with ⟨h0, _⟩ | ⟨b', gs, sp, h1, rfl, h3, h4⟩
    · omega
    cases h1
    have hm' : (b, row (gs.flatten ++ sp) e) ∈ Φ.flatten := List.mem_flatten.2 ⟨_, List.mem_of_getElem? hΦ, by simp⟩
    have hb := hs.mem hm'
    have hfl := h3.flat
    have hzl : (Builtin.zeroCells z.cells m).toList = (List.replicate m zs).flatten := by
      rw [hzs, zeroCells_list _ _ (by simpa [hz0] using hszp)]
    have hzlen : (List.replicate m zs).flatten.length = m * sz := by simp [hz0]
    have hfit : xs.length * sz + (List.replicate m zs).flatten.length ≤ (gs.flatten ++ sp).length := by
      rw [hzlen, h4, ← Nat.add_mul]; exact Nat.mul_le_mul_right _ hmc
    have hst := run_storeCells_at P b (xs.length * sz) e (List.replicate m zs).flatten 0 (gs.flatten ++ sp).toArray w hb (by simpa using hfit) (fun v hv => by
      obtain ⟨q, hq, hv⟩ := List.mem_flatten.1 hv
      rw [List.eq_of_mem_replicate hq] at hv
      exact List.all_eq_true.1 hone v hv)
    simp only [Nat.add_zero] at hst
    have hrow : (gs.flatten ++ sp).toArray.toList.take (xs.length * sz) ++ (List.replicate m zs).flatten ++ (gs.flatten ++ sp).toArray.toList.drop (xs.length * sz + (List.replicate m zs).flatten.length) = gs.flatten ++ ((List.replicate m zs).flatten ++ sp.drop (List.replicate m zs).flatten.length) := by
      rw [← hfl]
      simp only []
      rw [List.take_left', List.append_assoc, List.drop_append, List.drop_eq_nil_of_le (by omega), List.nil_append, Nat.add_sub_cancel_left]
      rfl
    rw [hrow] at hst
    have hr : (Builtin.clear_ #[t] ty #[.slice (some ⟨b, xs.length * sz, none⟩) m c']).run P w = .ok (.tuple #[]) (w.setRow b (gs.flatten ++ ((List.replicate m zs).flatten ++ sp.drop (List.replicate m zs).flatten.length)).toArray) := by
      obtain ⟨q, hq⟩ : ∃ q, m = q + 1 := ⟨m - 1, by omega⟩
      have hzr := run_zeroValue hz w
      have hst2 : (storeCells ⟨b, xs.length * sz, none⟩ (Builtin.zeroCells z.cells m).toList).run P w = .ok () (w.setRow b (gs.flatten ++ ((List.replicate m zs).flatten ++ sp.drop (List.replicate m zs).flatten.length)).toArray) := by rw [hzl]; exact hst
      generalize (w.setRow b (gs.flatten ++ ((List.replicate m zs).flatten ++ sp.drop (List.replicate m zs).flatten.length)).toArray) = W at hst2 ⊢
      clear hst hrow hzl hfit hzlen
      subst hq
      simp [Builtin.clear_, run_underlying ht, hzr, hst2]
    have hs' : Sat F (Φ.set gi [(b, row (gs.flatten ++ ((List.replicate m zs).flatten ++ sp.drop (List.replicate m zs).flatten.length)) e)]) (w.setRow b (gs.flatten ++ ((List.replicate m zs).flatten ++ sp.drop (List.replicate m zs).flatten.length)).toArray) := by
      refine hs.put hΦ ?_ (fun k hk => setRow_other _ _ _ _ hk) (by simp) rfl rfl rfl
      rw [setRow_heap w b (gs.flatten ++ sp).toArray _ e _ hb]
    have hO' : OwnL sz R F1 e (some ⟨b, 0, none⟩) c xs [(b, row (gs.flatten ++ ((List.replicate m zs).flatten ++ sp.drop (List.replicate m zs).flatten.length)) e)] := by
      refine ⟨hO.1, .inr ⟨b, gs, _, rfl, rfl, h3, ?_⟩⟩
      rw [← h4]
      rw [List.length_append] at hfit
      simp only [List.length_append, List.length_drop]
      omega
    simp only [builtin, hr, Result.andThen_ok, Sem.run_bind, Sem.run_pure]
    exact ⟨hS _ _ hs', h _ hO' _ _ hc hs' (hS _ _ hs')⟩
end
end Go.Pel

/- Rounds over the entries of a map of the call's own. -/
import Derived.Test.YtmkegcgnjaldpaaPelMarks
import Derived.Test.YtmkegcgnjaldpaaPelPure
import Derived.Maps.RangeRun
namespace Go.Pel
open Go.RowKit
open Go.ChangeMaps (setBlock)

section
variable {K V : Type} [DecidableEq K] {enc : K → Value} {RV : Mem → Value → V → Prop}
/-- A map that is ranged over: 'sk' are the keys that came. -/
def RangeM (enc : K → Value) (RV : Mem → Value → V → Prop) (F : Mem) (b : Nat) (m : List (K × V)) (ψ : List Chunk) (r : Nat) (ψi : List Chunk) (sk : List K) : Prop :=
  ∃ (es : List MapEntry) (clock : Nat) (seen : List Nat), ψ = [(b, .map es.toArray clock)] ∧ ψi = [(r, .mapIter (some b) clock seen.toArray clock)] ∧ es.map (·.key) = (m.map (·.1)).map enc ∧
    (∀ (j : Nat) (e : MapEntry) (p : K × V), es[j]? = some e → m[j]? = some p → RV F e.val p.2) ∧ (m.map (·.1)).Nodup ∧ Bn es clock ∧ ∀ (j : Nat) (e : MapEntry) (p : K × V), es[j]? = some e → m[j]? = some p → (p.1 ∈ sk ↔ e.born ∈ seen)
omit [DecidableEq K] in
theorem RangeM.own {F : Mem} {b m ψ r ψi} {sk : List K} (h : RangeM enc RV F b m ψ r ψi sk) : OwnM enc RV F b m ψ := by
  obtain ⟨es, clock, seen, h1, _, h3, h4, h5, h6, _⟩ := h
  exact ⟨es, clock, h1, h3, h4, h5, h6⟩
/-- The entry that came last. -/
def CurM (enc : K → Value) (F : Mem) (b : Nat) (ψ : List Chunk) (r : Nat) (ψi : List Chunk) (k : K) (v : Value) : Prop :=
  ∃ (es : List MapEntry) (clock : Nat) (seen : List Nat) (e : MapEntry), ψ = [(b, .map es.toArray clock)] ∧ ψi = [(r, .mapIter (some b) clock (seen.toArray.push e.born) clock)] ∧ e ∈ es ∧ (es.map (·.born)).Nodup ∧ e.key = enc k ∧ e.val = v

variable {P : Program} {ops : Array Oper} {Q : Post} {S : World → Prop} {n : Nat} {E : Env} {F F0 F1 : Mem} {Φ Φ0 : List (List Chunk)}
variable {i d ty : Nat} {pos : String} {af : Array Edge} {g : Option (Nat × Bool)} {rest : List (Nat × Bool)}
omit [DecidableEq K] in
theorem WO.range {t k e : TypeId} {x : Operand} {b : Nat} {m : List (K × V)} {ψ : List Chunk} (gi : Nat) (hM : OwnM enc RV F1 b m ψ) (hΦ : Φ[gi]? = some ψ)
    (ho : ops[i]? = some ⟨some d, .range t x, ty, pos, af, g⟩) (hg : gOk ops E g = some true) (hn : Nat.blt d n = true) (hx : ev E x = some (.map (some b))) (ht : P.underlying t = some (.map k e))
    (hS : ∀ ψi w, Sat F (ψi :: Φ) w → S w) (h : ∀ r ψi, RangeM enc RV F1 b m ψ r ψi [] → WO P ops Q S rest n ((d, .pointer (some ⟨r, 0, none⟩)) :: E) F (ψi :: Φ)) : WO P ops Q S ((i, false) :: rest) n E F Φ := by
  obtain ⟨es, clock, rfl, h2, h3, h4, h5⟩ := hM
  refine WO.valW ho rfl hg hn fun act w hc hs _ => ?_
  have hb : w.heap[b]? = some (.map es.toArray clock) := hs.mem (List.mem_flatten.2 ⟨_, List.mem_of_getElem? hΦ, by simp⟩)
  have hs' := hs.alloc (.mapIter (some b) clock #[] clock)
  refine ⟨_, _, F, _, ?_, hs', hS _ _ hs', h w.heap.size _ ⟨es, clock, [], rfl, rfl, h2, h3, h4, h5, fun j e p _ _ => by simp⟩⟩
  simp only [execOp, hc.ev hx, Instr.range, Sem.run_bind, run_underlying ht, Result.andThen_ok, MapKept.run_getObj_map hb, Sem.run_pure]
  rfl
omit [DecidableEq K] in
theorem setBlock_heap (w : World) (r : Nat) (o : Obj) : (setBlock w r o).heap = w.heap.setIfInBounds r o := rfl
omit [DecidableEq K] in
theorem WO.next {x : Operand} {b r : Nat} {m : List (K × V)} {ψ ψi : List Chunk} {sk : List K} (gi gj : Nat) (hM : RangeM enc RV F1 b m ψ r ψi sk) (hΦ : Φ[gi]? = some ψ) (hΨ : Φ[gj]? = some ψi)
    (ho : ops[i]? = some ⟨some d, .next x false, ty, pos, af, g⟩) (hg : gOk ops E g = some true) (hn : Nat.blt d n = true) (hx : ev E x = some (.pointer (some ⟨r, 0, none⟩)))
    (hS : ∀ ψi' w, Sat F (Φ.set gj ψi') w → S w) (hS0 : ∀ w, Sat F Φ w → S w)
    (h0 : (∀ p ∈ m, p.1 ∈ sk) → WO P ops Q S rest n ((d, .tuple #[.bool false]) :: E) F Φ)
    (h1 : ∀ p v ψi', p ∈ m → p.1 ∉ sk → RV F1 v p.2 → RangeM enc RV F1 b m ψ r ψi' (p.1 :: sk) → CurM enc F1 b ψ r ψi' p.1 v → WO P ops Q S rest n ((d, .tuple #[.bool true, enc p.1, v]) :: E) F (Φ.set gj ψi')) :
    WO P ops Q S ((i, false) :: rest) n E F Φ := by
  obtain ⟨es, clock, seen, rfl, rfl, h3, h4, h5, h6, h7⟩ := hM
  have hlen : es.length = m.length := by simpa using congrArg List.length h3
  refine WO.valW ho rfl hg hn fun act w hc hs _ => ?_
  have hb : w.heap[b]? = some (.map es.toArray clock) := hs.mem (List.mem_flatten.2 ⟨_, List.mem_of_getElem? hΦ, by simp⟩)
  have hr : w.heap[r]? = some (.mapIter (some b) clock seen.toArray clock) := hs.mem (List.mem_flatten.2 ⟨_, List.mem_of_getElem? hΨ, by simp⟩)
  rcases run_next_at (P := P) w ty r b clock clock seen.toArray es.toArray clock hr hb (fun x hx => h6.1 x (by simpa using hx)) (Nat.le_refl _) with ⟨hz, hrun⟩ | ⟨e, he, w1, hw1, hrun⟩
  · refine ⟨_, w, F, Φ, by simp [execOp, hc.ev hx, hrun], hs, hS0 _ hs, h0 fun p hp => ?_⟩
    obtain ⟨j, hj⟩ := List.getElem?_of_mem hp
    have hjl : j < es.length := by rw [hlen]; exact (List.getElem?_eq_some_iff.1 hj).1
    refine (h7 j es[j] p (List.getElem?_eq_getElem hjl) hj).2 ?_
    have hne : leftOf es.toArray seen.toArray = #[] := Array.eq_empty_of_size_eq_zero hz
    unfold leftOf at hne
    have := Array.filter_eq_empty_iff.1 hne es[j] (by simp)
    simpa using this
  · have hemem : e ∈ es ∧ e.born ∉ seen := by
      unfold leftOf at he
      simp at he
      exact he
    obtain ⟨j, hj⟩ := List.getElem?_of_mem hemem.1
    have hjl : j < m.length := by rw [← hlen]; exact (List.getElem?_eq_some_iff.1 hj).1
    have hmj : m[j]? = some m[j] := List.getElem?_eq_getElem hjl
    have hkey : e.key = enc m[j].1 := by
      have h8 := congrArg (fun l => l[j]?) h3
      simp only [List.getElem?_map, hj, hmj, Option.map_some] at h8
      simpa using h8
    have hs1 : Sat F Φ w1 := by
      rcases hw1 with e1 | e1
      · rw [e1]; exact hs
      · rw [e1]; exact hs.drawn _
    have hs2 : Sat F (Φ.set gj [(r, .mapIter (some b) clock (seen.toArray.push e.born) clock)]) (setBlock w1 r (.mapIter (some b) clock (seen.toArray.push e.born) clock)) := by
      exact hs1.setObj hΨ _
    refine ⟨_, _, F, _, by simp [execOp, hc.ev hx, hrun]; rfl, hs2, hS _ _ hs2, ?_⟩
    rw [hkey]
    refine h1 m[j] e.val _ (List.getElem_mem hjl) (fun hsk => hemem.2 ((h7 j e _ hj hmj).1 hsk)) (h4 j e _ hj hmj) ⟨es, clock, seen ++ [e.born], rfl, by simp, h3, h4, h5, h6, fun j' e' p' k1 k2 => ?_⟩ ⟨es, clock, seen, e, rfl, rfl, hemem.1, h6.2, hkey, rfl⟩
    have h9 := h7 j' e' p' k1 k2
    simp only [List.mem_cons, List.mem_append, List.not_mem_nil, or_false]
    have hiff : p'.1 = m[j].1 ↔ e'.born = e.born := by
      constructor
      · intro hp
        have : j' = j := nodup_at h5 (x := p'.1) (by rw [List.getElem?_map, k2]; rfl) (by rw [List.getElem?_map, hmj]; simp [hp])
        subst this
        rw [hj] at k1; cases k1; rfl
      · intro hp
        have : j' = j := nodup_at h6.2 (x := e'.born) (by rw [List.getElem?_map, k1]; rfl) (by rw [List.getElem?_map, hj]; simp [hp])
        subst this
        rw [hmj] at k2; cases k2; rfl
    rw [hiff, h9]
    exact or_comm
omit [DecidableEq K] in
theorem WO.entry {x : Operand} {b r : Nat} {ψ ψi : List Chunk} {k : K} {v : Value} (gi gj : Nat) (hC : CurM enc F1 b ψ r ψi k v) (hΦ : Φ[gi]? = some ψ) (hΨ : Φ[gj]? = some ψi)
    (ho : ops[i]? = some ⟨some d, .entry x, ty, pos, af, g⟩) (hg : gOk ops E g = some true) (hn : Nat.blt d n = true) (hx : ev E x = some (.pointer (some ⟨r, 0, none⟩)))
    (h : WO P ops Q S rest n ((d, .tuple #[enc k, v]) :: E) F Φ) : WO P ops Q S ((i, false) :: rest) n E F Φ := by
  obtain ⟨es, clock, seen, e, rfl, rfl, h3, h4, h5, h6⟩ := hC
  refine WO.val ho rfl hg hn (fun act w hc hs _ => ?_) h
  have hb : w.heap[b]? = some (.map es.toArray clock) := hs.mem (List.mem_flatten.2 ⟨_, List.mem_of_getElem? hΦ, by simp⟩)
  have hr : w.heap[r]? = some (.mapIter (some b) clock (seen.toArray.push e.born) clock) := hs.mem (List.mem_flatten.2 ⟨_, List.mem_of_getElem? hΨ, by simp⟩)
  have hrun := run_entry_at (P := P) w r b clock seen.toArray es.toArray clock e hr hb (by simpa using h3) (by simpa using h4)
  rw [h5, h6] at hrun
  simp [execOp, hc.ev hx, hrun]
/-- An entry goes while the map is ranged over. -/
theorem RangeM.delete {k e t t2 : TypeId} (hK : KeyB P k enc) (ht : P.underlying t = some (.map k e)) {b r : Nat} {m : List (K × V)} {ψ ψi : List Chunk} {sk : List K} (hM : RangeM enc RV F1 b m ψ r ψi sk) (q : K) (ty : TypeId) :
    ∃ ψ', RangeM enc RV F1 b (mdel m q) ψ' r ψi sk ∧ ∀ (w : World) (Φ : List (List Chunk)) (F : Mem) (gi : Nat), Sat F Φ w → Φ[gi]? = some ψ → ∃ w', (Builtin.delete_ #[t, t2] ty #[.map (some b), enc q]).run P w = .ok (.tuple #[]) w' ∧ Sat F (Φ.set gi ψ') w' := by
  obtain ⟨es, clock, seen, rfl, rfl, h2, h3, h4, h5, h7⟩ := hM
  have hlen : es.length = m.length := by simpa using congrArg List.length h2
  cases hk : kfind q (m.map (·.1)) 0 with
  | none =>
    refine ⟨[(b, .map es.toArray clock)], by rw [mdel_no hk]; exact ⟨es, clock, seen, rfl, rfl, h2, h3, h4, h5, h7⟩, fun w Φ F gi hs hΦ => ?_⟩
    have hb : w.heap[b]? = some (.map es.toArray clock) := hs.mem (List.mem_flatten.2 ⟨_, List.mem_of_getElem? hΦ, by simp⟩)
    have hf := hK.find q es _ w h2
    rw [hk] at hf
    refine ⟨_, ?_, hs.setObj hΦ _⟩
    simp [Builtin.delete_, run_underlying ht, MapKept.run_getObj_map hb, hK.chk, hf, MapKept.run_setObj_map _ hb]
  | some j =>
    obtain ⟨u, hu, hg⟩ := mget_at h4 hk
    have hj : j < es.length := by rw [hlen]; exact (List.getElem?_eq_some_iff.1 hu).1
    refine ⟨[(b, .map (es.eraseIdx j).toArray clock)], ?_, fun w Φ F gi hs hΦ => ?_⟩
    · rw [mdel_at h4 hk]
      refine ⟨_, _, seen, rfl, rfl, ?_, fun i e' p k1 k2 => ?_, ?_, h5.sub (List.eraseIdx_sublist ..), fun i e' p k1 k2 => ?_⟩
      · rw [map_eraseIdx', map_eraseIdx', map_eraseIdx', h2]
      · exact h3 _ e' p (getElem?_eraseIdx_sub k1) (getElem?_eraseIdx_sub k2)
      · rw [map_eraseIdx']
        exact h4.sublist (List.eraseIdx_sublist ..)
      · exact h7 _ e' p (getElem?_eraseIdx_sub k1) (getElem?_eraseIdx_sub k2)
    · have hb : w.heap[b]? = some (.map es.toArray clock) := hs.mem (List.mem_flatten.2 ⟨_, List.mem_of_getElem? hΦ, by simp⟩)
      have hf := hK.find q es _ w h2
      rw [hk] at hf
      simp only [Option.bind_some, List.getElem?_eq_getElem hj, Option.map_some] at hf
      refine ⟨_, ?_, hs.setObj hΦ _⟩
      have he : es.toArray.eraseIdxIfInBounds j = (es.eraseIdx j).toArray := by
        apply Array.ext'
        simp [Array.eraseIdxIfInBounds, hj]
      simp [Builtin.delete_, run_underlying ht, MapKept.run_getObj_map hb, hK.chk, hf, MapKept.run_setObj_map _ hb, he]
theorem WO.deleteR {t t2 k e : TypeId} {x y : Operand} {b r : Nat} {m : List (K × V)} {ψ ψi : List Chunk} {sk : List K} {q : K} (gi : Nat) (hK : KeyB P k enc) (hM : RangeM enc RV F1 b m ψ r ψi sk) (hΦ : Φ[gi]? = some ψ)
    (ho : ops[i]? = some ⟨none, .call ⟨.builtin .delete, #[x, y], #[t, t2]⟩, ty, pos, af, g⟩) (hg : gOk ops E g = some true) (hx : ev E x = some (.map (some b))) (hy : ev E y = some (enc q)) (ht : P.underlying t = some (.map k e))
    (hS : ∀ ψ' w, Sat F (Φ.set gi ψ') w → S w) (h : ∀ ψ', RangeM enc RV F1 b (mdel m q) ψ' r ψi sk → WO P ops Q S rest n E F (Φ.set gi ψ')) : WO P ops Q S ((i, false) :: rest) n E F Φ := by
  obtain ⟨ψ', h1, h2⟩ := hM.delete (t2 := t2) hK ht q ty
  refine WO.act ho hg fun a w hc hs _ => ?_
  obtain ⟨w', hr, hs'⟩ := h2 w Φ F gi hs hΦ
  unfold Oper.wp
  obtain ⟨cs, hbr⟩ := run_builtin (P := P) (d := none) (ty := ty) (pos := pos) (af := af) (g := g) .delete [x, y] #[t, t2] a [.map (some b), enc q] (by simp [hc.ev hx, hc.ev hy]) w
  rw [hbr]
  simp only [builtin, hr, Result.andThen_ok, Sem.run_bind, Sem.run_pure]
  exact ⟨hS _ _ hs', h ψ' h1 _ _ hc hs' (hS _ _ hs')⟩
end

/-- A loop whose rounds get less: nothing is told of their order. -/
theorem wp_loopI {P : Program} {c : Code} {Q : Exit → Act → World → Prop} (I : Nat → Act → World → Prop)
    (round : ∀ m a w, I m a w → c.wp P (fun e a' w' => match e with | .normal => ∃ m', m' < m ∧ I m' a' w' | e => Q e a' w') a w) :
    ∀ m a w, I m a w → (Code.loop c).wp P Q a w := by
  intro m a w hI b k cs
  have key : ∀ (N m : Nat), m ≤ N → ∀ a w, I m a w → ∃ e a' w', Q e a' w' ∧ Arrives P (lone (b.at a (.code c :: .inLoop c :: k)) cs w) b k cs e a' w' := by
    intro N
    induction N with
    | zero =>
      intro m hm a w hI
      obtain ⟨e, a₁, w₁, hq, harr⟩ := round m a w hI b (.inLoop c :: k) cs
      cases e with
      | normal => obtain ⟨m', hlt, _⟩ := hq; omega
      | exit id => exact ⟨_, a₁, w₁, hq, .pass (x := .inLoop c) rfl (fun _ _ => .inl (by simp)) harr⟩
      | goto l => exact ⟨_, a₁, w₁, hq, .pass (x := .inLoop c) rfl (fun _ _ => .inl (by simp)) harr⟩
      | ret => exact ⟨_, a₁, w₁, hq, .pass (x := .inLoop c) rfl (fun _ _ => .inl (by simp)) harr⟩
      | panic ch => exact ⟨_, a₁, w₁, hq, .pass (x := .inLoop c) rfl (fun _ _ => .inl (by simp)) harr⟩
      | outgrown => exact ⟨_, a₁, w₁, hq, .pass (x := .inLoop c) rfl (fun _ _ => .inl (by simp)) harr⟩
    | succ N ih =>
      intro m hm a w hI
      obtain ⟨e, a₁, w₁, hq, harr⟩ := round m a w hI b (.inLoop c :: k) cs
      cases e with
      | normal =>
        obtain ⟨m', hlt, hI'⟩ := hq
        obtain ⟨e₂, a₂, w₂, hq₂, harr₂⟩ := ih m' (by omega) a₁ w₁ hI'
        exact ⟨e₂, a₂, w₂, hq₂, .of_steps (Steps.trans harr (.one step_inLoop)) harr₂⟩
      | exit id => exact ⟨_, a₁, w₁, hq, .pass (x := .inLoop c) rfl (fun _ _ => .inl (by simp)) harr⟩
      | goto l => exact ⟨_, a₁, w₁, hq, .pass (x := .inLoop c) rfl (fun _ _ => .inl (by simp)) harr⟩
      | ret => exact ⟨_, a₁, w₁, hq, .pass (x := .inLoop c) rfl (fun _ _ => .inl (by simp)) harr⟩
      | panic ch => exact ⟨_, a₁, w₁, hq, .pass (x := .inLoop c) rfl (fun _ _ => .inl (by simp)) harr⟩
      | outgrown => exact ⟨_, a₁, w₁, hq, .pass (x := .inLoop c) rfl (fun _ _ => .inl (by simp)) harr⟩
  obtain ⟨e, a', w', hq, harr⟩ := key m m (Nat.le_refl _) a w hI
  exact ⟨e, a', w', hq, .of_steps (.one step_loop) harr⟩
/-- The post of a round. -/
def roundI (I : Nat → Act → World → Prop) (Q : Post) (m : Nat) : Post where
  normal := fun a w => ∃ m', m' < m ∧ I m' a w
  ret := Q.ret
  exit := Q.exit
theorem WC.loopI {P : Program} {c : Code} {Q : Post} {n : Nat} {E : Env} {F : Mem} {Φ : List (List Chunk)} (I : Nat → Act → World → Prop) (m0 : Nat) (hI : At (I m0) n E F Φ)
    (round : ∀ m a w, I m a w → c.wp P (roundI I Q m).k a w) : WC P (.loop c) Q n E F Φ := fun a w hc hs =>
  wp_loopI I (fun m a w hi => wp_mono (round m a w hi) fun e a w h => by
    cases e with
    | normal => exact h
    | ret => exact h
    | exit id => exact h
    | _ => exact h.elim) m0 a w (hI a w hc hs)
theorem At.roundI {I : Nat → Act → World → Prop} {Q : Post} {m m' n : Nat} {E : Env} {F : Mem} {Φ : List (List Chunk)} (hlt : m' < m) (h : At (I m') n E F Φ) : At (Pel.roundI I Q m).normal n E F Φ := fun a w hc hs => ⟨m', hlt, h a w hc hs⟩
theorem At.roundI_exit {I : Nat → Act → World → Prop} {Q : Post} {m n id : Nat} {E : Env} {F : Mem} {Φ : List (List Chunk)} (h : At (Q.exit id) n E F Φ) : At ((Pel.roundI I Q m).exit id) n E F Φ := h

/-! ### The pure side: entries that meet a test go -/
section
variable {K V : Type}
def mfilterO (f : K → V → Option Bool) : List (K × V) → Option (List (K × V))
  | [] => some []
  | p :: m => (f p.1 p.2).bind fun b => (mfilterO f m).bind fun r => some (if b then r else p :: r)
theorem mfilterO_some {f : K → V → Option Bool} : ∀ {m r : List (K × V)}, mfilterO f m = some r → (∀ p ∈ m, ∃ b, f p.1 p.2 = some b) ∧ r = m.filter fun p => !decide (f p.1 p.2 = some true)
  | [], r, h => by simp [mfilterO] at h; exact ⟨by simp, by simp [h]⟩
  | p :: m, r, h => by
    simp only [mfilterO] at h
    obtain ⟨b, hb, h⟩ := bind_some' h
    obtain ⟨r', hr, h⟩ := bind_some' h
    obtain ⟨h1, h2⟩ := mfilterO_some hr
    refine ⟨fun q hq => ?_, ?_⟩
    · rcases List.mem_cons.1 hq with rfl | hq
      · exact ⟨b, hb⟩
      · exact h1 q hq
    · have h3 := Option.some.inj h
      rw [← h3, h2]
      cases b <;> simp [hb]
theorem mfilterO_of {f : K → V → Option Bool} {g : K → V → Bool} : ∀ {m : List (K × V)}, (∀ p ∈ m, f p.1 p.2 = some (g p.1 p.2)) → mfilterO f m = some (m.filter fun p => !g p.1 p.2)
  | [], _ => rfl
  | p :: m, h => by
    simp only [mfilterO, h p (List.mem_cons_self ..), Option.bind_some, mfilterO_of (fun q hq => h q (List.mem_cons_of_mem _ hq))]
    cases hgp : g p.1 p.2 <;> simp [hgp]
end
end Go.Pel
namespace Go.Pel
section
variable {K V : Type} [DecidableEq K]
/-- What is left of a map whose entries are looked at in whatever order. -/
structure MI (f : K → V → Option Bool) (M m : List (K × V)) (sk : List K) (cnt : Nat) : Prop where
  left : m = M.filter fun p => !(decide (p.1 ∈ sk) && decide (f p.1 p.2 = some true))
  cnt : cnt = (m.filter fun p => !decide (p.1 ∈ sk)).length
  keys : (M.map (·.1)).Nodup
theorem MI.start {f : K → V → Option Bool} {M : List (K × V)} (h : (M.map (·.1)).Nodup) : MI f M M [] M.length := ⟨by rw [eq_comm, List.filter_eq_self]; simp, by rw [List.filter_eq_self.2]; simp, h⟩
theorem MI.mem {f : K → V → Option Bool} {M m : List (K × V)} {sk : List K} {cnt : Nat} (h : MI f M m sk cnt) {p : K × V} (hp : p ∈ m) : p ∈ M := by
  rw [h.left] at hp; exact (List.mem_filter.1 hp).1
omit [DecidableEq K] in
theorem same_key {M : List (K × V)} (h : (M.map (·.1)).Nodup) {p q : K × V} (hp : p ∈ M) (hq : q ∈ M) (e : p.1 = q.1) : p = q := by
  obtain ⟨i, hi⟩ := List.getElem?_of_mem hp
  obtain ⟨j, hj⟩ := List.getElem?_of_mem hq
  have : i = j := nodup_at h (x := p.1) (by rw [List.getElem?_map, hi]; rfl) (by rw [List.getElem?_map, hj]; simp [e])
  subst this
  rw [hi] at hj; cases hj; rfl
theorem MI.less {f : K → V → Option Bool} {M m : List (K × V)} {sk : List K} {cnt : Nat} (h : MI f M m sk cnt) {p : K × V} (hp : p ∈ m) (hn : p.1 ∉ sk) : (m.filter fun q => !decide (q.1 ∈ p.1 :: sk)).length < cnt := by
  rw [h.cnt]
  have e : (m.filter fun q => !decide (q.1 ∈ p.1 :: sk)) = (m.filter fun q => !decide (q.1 ∈ sk)).filter fun q => !decide (q.1 = p.1) := by
    rw [List.filter_filter]
    apply List.filter_congr
    intro q _
    simp only [List.mem_cons]
    by_cases h1 : q.1 = p.1 <;> by_cases h2 : q.1 ∈ sk <;> simp [h1, h2]
  rw [e]
  refine List.length_filter_lt_length_iff_exists.2 ⟨p, List.mem_filter.2 ⟨hp, by simp [hn]⟩, by simp⟩
theorem MI.keep {f : K → V → Option Bool} {M m : List (K × V)} {sk : List K} {cnt : Nat} (h : MI f M m sk cnt) {p : K × V} (hp : p ∈ m) (hn : p.1 ∉ sk) (hf : f p.1 p.2 = some false) : ∃ cnt', cnt' < cnt ∧ MI f M m (p.1 :: sk) cnt' := by
  refine ⟨_, h.less hp hn, ?_, rfl, h.keys⟩
  have hpM := h.mem hp
  conv => lhs; rw [h.left]
  apply List.filter_congr
  intro q hq
  by_cases h1 : q.1 = p.1
  · have := same_key h.keys hq hpM h1
    subst this
    simp [hf]
  · simp [h1]
theorem MI.del {f : K → V → Option Bool} {M m : List (K × V)} {sk : List K} {cnt : Nat} (h : MI f M m sk cnt) {p : K × V} (hp : p ∈ m) (hn : p.1 ∉ sk) (hf : f p.1 p.2 = some true) : ∃ cnt', cnt' < cnt ∧ MI f M (mdel m p.1) (p.1 :: sk) cnt' := by
  have hpM := h.mem hp
  refine ⟨((mdel m p.1).filter fun q => !decide (q.1 ∈ p.1 :: sk)).length, ?_, ?_, rfl, h.keys⟩
  · refine Nat.lt_of_le_of_lt ?_ (h.less hp hn)
    unfold mdel
    exact (List.Sublist.filter _ List.filter_sublist).length_le
  · unfold mdel
    rw [h.left, List.filter_filter]
    apply List.filter_congr
    intro q hq
    by_cases h1 : q.1 = p.1
    · have := same_key h.keys hq hpM h1
      subst this
      simp [hf]
    · simp [h1]
theorem MI.over {f : K → V → Option Bool} {M m : List (K × V)} {sk : List K} {cnt : Nat} (h : MI f M m sk cnt) (ha : ∀ p ∈ m, p.1 ∈ sk) : m = M.filter fun p => !decide (f p.1 p.2 = some true) := by
  have hl := h.left
  rw [hl]
  apply List.filter_congr
  intro q hq
  by_cases h1 : f q.1 q.2 = some true
  · by_cases h2 : q.1 ∈ sk
    · simp [h1, h2]
    · exfalso
      refine h2 (ha q ?_)
      rw [hl]
      exact List.mem_filter.2 ⟨hq, by simp [h2]⟩
  · simp [h1]
variable {enc : K → Value} {RV : Mem → Value → V → Prop}
omit [DecidableEq K] in
theorem RangeM.nodup {F : Mem} {b m ψ r ψi} {sk : List K} (h : RangeM enc RV F b m ψ r ψi sk) : (m.map (·.1)).Nodup := by
  obtain ⟨es, clock, seen, h1, _, h3, h4, h5, h6, _⟩ := h
  exact h5
end
end Go.Pel

/- Rows that bear the run-time's mark: []byte of a constant. -/
import Derived.Test.YtmkegcgnjaldpaaPelArgs
namespace Go.Pel
open Go.RowKit

section
variable {P : Program} {ops : Array Oper} {Q : Post} {S : World → Prop} {n : Nat} {E : Env} {F F0 F1 : Mem} {Φ Φ0 : List (List Chunk)}
variable {i d ty : Nat} {pos : String} {af : Array Edge} {g : Option (Nat × Bool)} {rest : List (Nat × Bool)}
/-- A row of bytes that is marked: from here on it is read. -/
theorem WO.mark {t e : TypeId} {x : Operand} {b l c e' : Nat} {cs : List Value} (gi : Nat) (hΦ : Φ[gi]? = some [(b, row cs e')])
    (ho : ops[i]? = some ⟨some d, .convert t t x, ty, pos, af, g⟩) (hg : gOk ops E g = some true) (hn : Nat.blt d n = true) (hx : ev E x = some (.slice (some ⟨b, 0, none⟩) l c)) (ht : P.underlying t = some (.slice e)) (he : P.underlying e = some (.int .u8))
    (hS : ∀ ψ w, Sat (F.add ψ) (Φ.eraseIdx gi) w → S w) (h : ∀ ψ, (∀ F1 : Mem, Cells (F1.add ψ) b 0 cs) → WO P ops Q S rest n ((d, .slice (some ⟨b, 0, none⟩) l c) :: E) (F.add ψ) (Φ.eraseIdx gi)) : WO P ops Q S ((i, false) :: rest) n E F Φ := by
  refine WO.valW ho rfl hg hn fun act w hc hs _ => ?_
  have hm : (b, row cs e') ∈ Φ.flatten := List.mem_flatten.2 ⟨_, List.mem_of_getElem? hΦ, by simp⟩
  have hb := hs.mem hm
  have hlt : gi < Φ.length := (List.getElem?_eq_some_iff.1 hΦ).1
  have hfr : (w.freeze ⟨b, cs.length, none⟩ 1).heap[b]? = some (.cells cs.toArray e' (cs.length, cs.length + 1)) := by
    simp [World.freeze, Array.getElem?_modify, hb]
  have hoth : ∀ k, k ≠ b → (w.freeze ⟨b, cs.length, none⟩ 1).heap[k]? = w.heap[k]? := fun k hk => by
    simp only [World.freeze, Array.getElem?_modify]
    rw [if_neg (by decide)]
    show (w.heap.modify b _)[k]? = _
    rw [Array.getElem?_modify, if_neg (Ne.symm hk)]
  have hsz : (w.freeze ⟨b, cs.length, none⟩ 1).heap.size = w.heap.size := by simp [World.freeze]
  have hs' : Sat F (Φ.set gi [(b, .cells cs.toArray e' (cs.length, cs.length + 1))]) (w.freeze ⟨b, cs.length, none⟩ 1) := hs.put hΦ hfr hoth hsz (by simp [World.freeze]) (by simp [World.freeze]) (by simp [World.freeze])
  have hs2 := hs'.freezeAt (g := gi) (ψ := [(b, .cells cs.toArray e' (cs.length, cs.length + 1))]) (by simp [hlt])
  have he2 : (Φ.set gi [(b, Obj.cells cs.toArray e' (cs.length, cs.length + 1))]).eraseIdx gi = Φ.eraseIdx gi := by
    rw [List.eraseIdx_set_eq]
  rw [he2] at hs2
  refine ⟨_, _, _, _, ?_, hs2, hS _ _ hs2, h _ fun F1 => ⟨_, _, _, Mem.has_of (List.mem_singleton.2 rfl), fun j v hv => by simpa using hv⟩⟩
  have hsh : w.shape? b = some (e', cs.length) := by simp [World.shape?, hb]
  have hr : (convert t t (.slice (some ⟨b, 0, none⟩) l c)).run P w = .ok (.slice (some ⟨b, 0, none⟩) l c) (w.freeze ⟨b, cs.length, none⟩ 1) := by
    simp [convert, run_underlying ht, run_underlying he, markStringish, hsh]
  simp [execOp, hc.ev hx, hr]
theorem RdL.ofInts {F : Mem} {k : IntKind} {b c : Nat} {xs : List Int} (h : Cells F b 0 (xs.map (Value.int k))) (hc : Nat.ble xs.length c = true) : RdL 1 (RInt k) F (some ⟨b, 0, none⟩) c xs :=
  ⟨Nat.le_of_ble_eq_true hc, .inr ⟨b, 0, xs.map fun x => [Value.int k x], rfl, by rw [flatten_ints]; exact h, Rs.ofInts xs⟩⟩
end
end Go.Pel

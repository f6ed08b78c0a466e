/- Texts out of bytes. -/
import Derived.Test.YtmkegcgnjaldpaaPelKeys
import Derived.Laws.BytesArg
namespace Go.Pel
open Go.RowKit

theorem Rs.ints {F : Mem} {k : IntKind} {gs : List (List Value)} {xs : List Int} (h : Rs 1 (RInt k) F gs xs) : gs.flatten = xs.map (Value.int k) := h.cellInt
theorem RdL.str {P : Program} {src dst e : TypeId} (hs : P.underlying src = some (.slice e)) (he : P.underlying e = some (.int .u8)) (hd : P.underlying dst = some .string) {F1 F : Mem} {Φ : List (List Chunk)} {a : Option Addr} {c : Nat} {xs : List Int}
    (h : RdL 1 (RInt .u8) F1 a c xs) (hle : F1.le F) {w : World} (hw : Sat F Φ w) : (convert src dst (.slice a xs.length c)).run P w = .ok (.string (strOfNums xs)) w := by
  rcases h.2 with rfl | ⟨b, o, gs, rfl, h2, h3⟩
  · cases a with
    | none => rw [show (([] : List Int)).length = 0 from rfl, run_convert_bytes_nil w src e hs he 0 c dst hd]; rfl
    | some ad =>
      rw [run_convert_bytes_string w src dst e _ _ c hs he hd]
      simp [Conv.bytesToString, loadCells, loadCellsFrom, strOfNums, ByteArray.empty, ByteArray.emptyWithCapacity]
      rfl
  · have hc := h2.mono hle
    rw [h3.cellInt] at hc
    exact run_convert_bytes_arg w src e hs he b o xs.length c xs rfl (fun i hi => Cells.cell hw hc (by simp [hi, List.getD])) dst hd

section
variable {P : Program} {ops : Array Oper} {Q : Post} {S : World → Prop} {n : Nat} {E : Env} {F F0 F1 : Mem} {Φ Φ0 : List (List Chunk)}
variable {i d ty : Nat} {pos : String} {af : Array Edge} {g : Option (Nat × Bool)} {rest : List (Nat × Bool)}
theorem WO.str {s t e : TypeId} {x : Operand} {a : Option Addr} {l c : Nat} {xs : List Int} (hR : RdL 1 (RInt .u8) F1 a c xs) (hle : F1.le F)
    (ho : ops[i]? = some ⟨some d, .convert s t x, ty, pos, af, g⟩) (hg : gOk ops E g = some true) (hn : Nat.blt d n = true) (hx : ev E x = some (.slice a l c)) (hl : l = xs.length) (hs : P.underlying s = some (.slice e)) (he : P.underlying e = some (.int .u8)) (hd : P.underlying t = some .string)
    (h : WO P ops Q S rest n ((d, .string (strOfNums xs)) :: E) F Φ) : WO P ops Q S ((i, false) :: rest) n E F Φ :=
  WO.val ho rfl hg hn (fun a w hc hw _ => by subst hl; simp [execOp, hc.ev hx, RdL.str hs he hd hR hle hw]) h
theorem WO.strY {s t e : TypeId} {x : Operand} {a : Option Addr} {l c : Nat} {xs : List Int} (hR : RdL 1 (RInt .u8) F1 a c xs) (hle : F1.le F0)
    (ho : ops[i]? = some ⟨some d, .convert s t x, ty, pos, af, g⟩) (hg : gOk ops E g = some true) (hn : Nat.blt d n = true) (hx : ev E x = some (.slice a l c)) (hl : l = xs.length) (hs : P.underlying s = some (.slice e)) (he : P.underlying e = some (.int .u8)) (hd : P.underlying t = some .string)
    (h : WO P ops Q (Sat F0 Φ0) rest n ((d, .string (strOfNums xs)) :: E) F Φ) : WO P ops Q (Sat F0 Φ0) ((i, true) :: rest) n E F Φ :=
  WO.yield ho rfl hg hn (fun a hc w hw => by subst hl; simp [execOp, hc.ev hx, RdL.str hs he hd hR hle hw]) h
theorem run_equalIn_str {t : TypeId} (ht : P.underlying t = some .string) (k : Nat) (a b : ByteArray) (w : World) : (Op.equalIn (k + 1) t (.string a) (.string b)).run P w = .ok (a == b) w := by
  simp [Op.equalIn, run_underlying ht]
theorem WO.eqStr {xt yt : TypeId} {x y : Operand} {s t : ByteArray} (ho : ops[i]? = some ⟨some d, .binOp .eql xt x y yt, ty, pos, af, g⟩) (hg : gOk ops E g = some true) (hn : Nat.blt d n = true) (hx : ev E x = some (.string s)) (hy : ev E y = some (.string t)) (ht : P.underlying xt = some .string)
    (h : WO P ops Q S rest n ((d, .bool (s == t)) :: E) F Φ) : WO P ops Q S ((i, true) :: rest) n E F Φ :=
  WO.binV ho hg hn hx hy (fun w => by rw [eqGuard_at_string]; rfl) (fun w => by rw [beq_toListBytes]; simp [Go.binOp, Op.stringOp]) h
theorem WO.neStr {xt yt : TypeId} {x y : Operand} {s t : ByteArray} (ho : ops[i]? = some ⟨some d, .binOp .neq xt x y yt, ty, pos, af, g⟩) (hg : gOk ops E g = some true) (hn : Nat.blt d n = true) (hx : ev E x = some (.string s)) (hy : ev E y = some (.string t)) (ht : P.underlying xt = some .string)
    (h : WO P ops Q S rest n ((d, .bool (!(s == t))) :: E) F Φ) : WO P ops Q S ((i, true) :: rest) n E F Φ :=
  WO.binV ho hg hn hx hy (fun w => by rw [eqGuard_at_string]; rfl) (fun w => by rw [beq_toListBytes]; simp [Go.binOp, Op.stringOp]) h
end
end Go.Pel

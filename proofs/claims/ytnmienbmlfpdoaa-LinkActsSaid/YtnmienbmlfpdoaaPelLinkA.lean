/- What is handed in: bounds, reading. -/
import Derived.Test.YtnmienbmlfpdoaaPelLinkX0
set_option linter.unusedVariables false
set_option maxHeartbeats 2000000
namespace Go.Pel
open Go.RowKit Go.Proofs
noncomputable section
def wf_law16_Sides : S_law16_Sides → Prop := fun x => (inK .i64) x.Window ∧ (inK .i64) x.Span ∧ (inK .i64) x.Room
theorem arg_law16_Sides (w : World) : ArgB Try.prog w 23 3 R_law16_Sides wf_law16_Sides := by
  refine ⟨by kernel_rfl, fun enc fuel cs x h => ?_⟩
  obtain ⟨xs, m, _, rfl, hl, hxl, hf⟩ := DataW.trod_struct Try.underlying23 h
  have hl : cs.length = 3 := hl.trans (by kernel_rfl)
  obtain ⟨c0, c1, c2, rfl⟩ : ∃ c0 c1 c2, cs = [c0, c1, c2] := by
    match cs, hl with | [c0, c1, c2], _ => exact ⟨c0, c1, c2, rfl⟩
  have hxl : xs.length = 3 := hxl
  obtain ⟨y0, q0, w0⟩ := ArgB.fld (off := 0) (i := 0) (arg_int Try.underlying3 (by kernel_rfl)) (hf 0 _ rfl) (by omega)
  cases q0
  obtain ⟨y1, q1, w1⟩ := ArgB.fld (off := 1) (i := 1) (arg_int Try.underlying3 (by kernel_rfl)) (hf 1 _ rfl) (by omega)
  cases q1
  obtain ⟨y2, q2, w2⟩ := ArgB.fld (off := 2) (i := 2) (arg_int Try.underlying3 (by kernel_rfl)) (hf 2 _ rfl) (by omega)
  cases q2
  exact ⟨⟨y0, y1, y2⟩, rfl, ⟨w0, w1, w2⟩, rfl, rfl⟩
def wf_api_Seg : S_api_Seg → Prop := fun x => (inK .i64) x.Epoch ∧ (inK .i64) x.Seq ∧ (inK .i64) x.Ack ∧ (wfL (inK .u8)) x.Body
theorem arg_api_Seg (w : World) : ArgB Try.prog w 46 4 R_api_Seg wf_api_Seg := by
  refine ⟨by kernel_rfl, fun enc fuel cs x h => ?_⟩
  obtain ⟨xs, m, _, rfl, hl, hxl, hf⟩ := DataW.trod_struct Try.underlying46 h
  have hl : cs.length = 4 := hl.trans (by kernel_rfl)
  obtain ⟨c0, c1, c2, c3, rfl⟩ : ∃ c0 c1 c2 c3, cs = [c0, c1, c2, c3] := by
    match cs, hl with | [c0, c1, c2, c3], _ => exact ⟨c0, c1, c2, c3, rfl⟩
  have hxl : xs.length = 4 := hxl
  obtain ⟨y0, q0, w0⟩ := ArgB.fld (off := 0) (i := 0) (arg_int Try.underlying3 (by kernel_rfl)) (hf 0 _ rfl) (by omega)
  cases q0
  obtain ⟨y1, q1, w1⟩ := ArgB.fld (off := 1) (i := 1) (arg_int Try.underlying3 (by kernel_rfl)) (hf 1 _ rfl) (by omega)
  cases q1
  obtain ⟨y2, q2, w2⟩ := ArgB.fld (off := 2) (i := 2) (arg_int Try.underlying3 (by kernel_rfl)) (hf 2 _ rfl) (by omega)
  cases q2
  obtain ⟨y3, q3, w3⟩ := ArgB.fld (off := 3) (i := 3) (arg_slice Try.underlying38 (by kernel_rfl) (arg_int Try.underlying5 (by kernel_rfl)) rfl) (hf 3 _ rfl) (by omega)
  obtain ⟨a3_0, k3_0, e3, h3_0⟩ := q3
  cases e3
  exact ⟨⟨y0, y1, y2, y3⟩, ⟨_, _, rfl, h3_0⟩, ⟨w0, w1, w2, w3⟩, rfl, rfl⟩
def wf_law16_Act : S_law16_Act → Prop := fun x => (inK .i64) x.Kind ∧ (inK .i64) x.N ∧ (wfL (wfL (inK .u8))) x.Bodies ∧ wf_api_Seg x.S
theorem arg_law16_Act (w : World) : ArgB Try.prog w 57 7 R_law16_Act wf_law16_Act := by
  refine ⟨by kernel_rfl, fun enc fuel cs x h => ?_⟩
  obtain ⟨xs, m, _, rfl, hl, hxl, hf⟩ := DataW.trod_struct Try.underlying57 h
  have hl : cs.length = 7 := hl.trans (by kernel_rfl)
  obtain ⟨c0, c1, c2, c3, c4, c5, c6, rfl⟩ : ∃ c0 c1 c2 c3 c4 c5 c6, cs = [c0, c1, c2, c3, c4, c5, c6] := by
    match cs, hl with | [c0, c1, c2, c3, c4, c5, c6], _ => exact ⟨c0, c1, c2, c3, c4, c5, c6, rfl⟩
  have hxl : xs.length = 4 := hxl
  obtain ⟨y0, q0, w0⟩ := ArgB.fld (off := 0) (i := 0) (arg_int Try.underlying3 (by kernel_rfl)) (hf 0 _ rfl) (by omega)
  cases q0
  obtain ⟨y1, q1, w1⟩ := ArgB.fld (off := 1) (i := 1) (arg_int Try.underlying3 (by kernel_rfl)) (hf 1 _ rfl) (by omega)
  cases q1
  obtain ⟨y2, q2, w2⟩ := ArgB.fld (off := 2) (i := 2) (arg_slice Try.underlying55 (by kernel_rfl) (arg_slice Try.underlying38 (by kernel_rfl) (arg_int Try.underlying5 (by kernel_rfl)) rfl) rfl) (hf 2 _ rfl) (by omega)
  obtain ⟨a2_0, k2_0, e2, h2_0⟩ := q2
  cases e2
  obtain ⟨y3, q3, w3⟩ := ArgB.fld (off := 3) (i := 3) (arg_api_Seg _) (hf 3 _ rfl) (by omega)
  obtain ⟨a3_0, k3_0, e3, h3_0⟩ := q3
  cases e3
  exact ⟨⟨y0, y1, y2, y3⟩, ⟨_, _, _, _, rfl, h2_0, h3_0⟩, ⟨w0, w1, w2, w3⟩, rfl, rfl⟩
end
end Go.Pel

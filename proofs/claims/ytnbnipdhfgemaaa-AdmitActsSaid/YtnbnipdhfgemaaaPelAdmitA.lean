/- What is handed in: bounds, reading. -/
import Derived.Test.YtnbnipdhfgemaaaPelAdmitX0
set_option linter.unusedVariables false
set_option maxHeartbeats 2000000
namespace Go.Pel
open Go.RowKit Go.Proofs
noncomputable section
def wf_api_Shape : S_api_Shape → Prop := fun x => (inK .i64) x.Layers ∧ (inK .i64) x.Width ∧ (inK .i64) x.Heads ∧ (inK .i64) x.Inner ∧ (inK .i64) x.Vocab ∧ (inK .i64) x.Places
theorem arg_api_Shape (w : World) : ArgB Try.prog w 23 6 R_api_Shape wf_api_Shape := by
  refine ⟨by kernel_rfl, fun enc fuel cs x h => ?_⟩
  obtain ⟨xs, m, _, rfl, hl, hxl, hf⟩ := DataW.trod_struct Try.underlying23 h
  have hl : cs.length = 6 := hl.trans (by kernel_rfl)
  obtain ⟨c0, c1, c2, c3, c4, c5, rfl⟩ : ∃ c0 c1 c2 c3 c4 c5, cs = [c0, c1, c2, c3, c4, c5] := by
    match cs, hl with | [c0, c1, c2, c3, c4, c5], _ => exact ⟨c0, c1, c2, c3, c4, c5, rfl⟩
  have hxl : xs.length = 6 := hxl
  obtain ⟨y0, q0, w0⟩ := ArgB.fld (off := 0) (i := 0) (arg_int Try.underlying3 (by kernel_rfl)) (hf 0 _ rfl) (by omega)
  cases q0
  obtain ⟨y1, q1, w1⟩ := ArgB.fld (off := 1) (i := 1) (arg_int Try.underlying3 (by kernel_rfl)) (hf 1 _ rfl) (by omega)
  cases q1
  obtain ⟨y2, q2, w2⟩ := ArgB.fld (off := 2) (i := 2) (arg_int Try.underlying3 (by kernel_rfl)) (hf 2 _ rfl) (by omega)
  cases q2
  obtain ⟨y3, q3, w3⟩ := ArgB.fld (off := 3) (i := 3) (arg_int Try.underlying3 (by kernel_rfl)) (hf 3 _ rfl) (by omega)
  cases q3
  obtain ⟨y4, q4, w4⟩ := ArgB.fld (off := 4) (i := 4) (arg_int Try.underlying3 (by kernel_rfl)) (hf 4 _ rfl) (by omega)
  cases q4
  obtain ⟨y5, q5, w5⟩ := ArgB.fld (off := 5) (i := 5) (arg_int Try.underlying3 (by kernel_rfl)) (hf 5 _ rfl) (by omega)
  cases q5
  exact ⟨⟨y0, y1, y2, y3, y4, y5⟩, rfl, ⟨w0, w1, w2, w3, w4, w5⟩, rfl, rfl⟩
def wf_api_Request : S_api_Request → Prop := fun x => (inK .i64) x.ID ∧ (inK .i64) x.Most ∧ (wfL (inK .i64)) x.Prompt
theorem arg_api_Request (w : World) : ArgB Try.prog w 37 3 R_api_Request wf_api_Request := by
  refine ⟨by kernel_rfl, fun enc fuel cs x h => ?_⟩
  obtain ⟨xs, m, _, rfl, hl, hxl, hf⟩ := DataW.trod_struct Try.underlying37 h
  have hl : cs.length = 3 := hl.trans (by kernel_rfl)
  obtain ⟨c0, c1, c2, rfl⟩ : ∃ c0 c1 c2, cs = [c0, c1, c2] := by
    match cs, hl with | [c0, c1, c2], _ => exact ⟨c0, c1, c2, rfl⟩
  have hxl : xs.length = 3 := hxl
  obtain ⟨y0, q0, w0⟩ := ArgB.fld (off := 0) (i := 0) (arg_int Try.underlying3 (by kernel_rfl)) (hf 0 _ rfl) (by omega)
  cases q0
  obtain ⟨y1, q1, w1⟩ := ArgB.fld (off := 1) (i := 1) (arg_int Try.underlying3 (by kernel_rfl)) (hf 1 _ rfl) (by omega)
  cases q1
  obtain ⟨y2, q2, w2⟩ := ArgB.fld (off := 2) (i := 2) (arg_slice Try.underlying33 (by kernel_rfl) (arg_int Try.underlying3 (by kernel_rfl)) rfl) (hf 2 _ rfl) (by omega)
  obtain ⟨a2_0, k2_0, e2, h2_0⟩ := q2
  cases e2
  exact ⟨⟨y0, y1, y2⟩, ⟨_, _, rfl, h2_0⟩, ⟨w0, w1, w2⟩, rfl, rfl⟩
def wf_law21_Act : S_law21_Act → Prop := fun x => (inK .i64) x.Kind ∧ wf_api_Request x.R
theorem arg_law21_Act (w : World) : ArgB Try.prog w 39 4 R_law21_Act wf_law21_Act := by
  refine ⟨by kernel_rfl, fun enc fuel cs x h => ?_⟩
  obtain ⟨xs, m, _, rfl, hl, hxl, hf⟩ := DataW.trod_struct Try.underlying39 h
  have hl : cs.length = 4 := hl.trans (by kernel_rfl)
  obtain ⟨c0, c1, c2, c3, rfl⟩ : ∃ c0 c1 c2 c3, cs = [c0, c1, c2, c3] := by
    match cs, hl with | [c0, c1, c2, c3], _ => exact ⟨c0, c1, c2, c3, rfl⟩
  have hxl : xs.length = 2 := hxl
  obtain ⟨y0, q0, w0⟩ := ArgB.fld (off := 0) (i := 0) (arg_int Try.underlying3 (by kernel_rfl)) (hf 0 _ rfl) (by omega)
  cases q0
  obtain ⟨y1, q1, w1⟩ := ArgB.fld (off := 1) (i := 1) (arg_api_Request _) (hf 1 _ rfl) (by omega)
  obtain ⟨a1_0, k1_0, e1, h1_0⟩ := q1
  cases e1
  exact ⟨⟨y0, y1⟩, ⟨_, _, rfl, h1_0⟩, ⟨w0, w1⟩, rfl, rfl⟩
end
end Go.Pel

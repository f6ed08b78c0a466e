/- What is handed in: bounds, reading. -/
import Derived.Test.YtmkegcgnjaldpaaPelCsX0
set_option linter.unusedVariables false
set_option maxHeartbeats 2000000
set_option maxRecDepth 20000
namespace Go.Pel
open Go.RowKit Go.Proofs
noncomputable section
def wf_api_Spot : S_api_Spot → Prop := fun x => (inK .i64) x.Request ∧ (inK .i64) x.Layer ∧ (inK .i64) x.Place
theorem arg_api_Spot (w : World) : ArgB Try.prog w 30 3 R_api_Spot wf_api_Spot := by
  refine ⟨by kernel_rfl, fun enc fuel cs x h => ?_⟩
  obtain ⟨xs, m, _, rfl, hl, hxl, hf⟩ := DataW.trod_struct Try.underlying30 h
  have hl : cs.length = 3 := hl.trans (by kernel_rfl)
  obtain ⟨c0, c1, c2, rfl⟩ : ∃ c0 c1 c2, cs = [c0, c1, c2] := by
    match cs, hl with | [c0, c1, c2], _ => exact ⟨c0, c1, c2, rfl⟩
  have hxl : xs.length = 3 := hxl
  obtain ⟨y0, q0, w0⟩ := ArgB.fld (off := 0) (i := 0) (arg_int Try.underlying3 (by kernel_rfl)) (hf 0 _ rfl) (by omega)
  cases q0
  obtain ⟨y1, q1, w1⟩ := ArgB.fld (off := 1) (i := 1) (arg_int Try.underlying3 (by kernel_rfl)) (hf 1 _ rfl) (by omega)
  cases q1
  obtain ⟨y2, q2, w2⟩ := ArgB.fld (off := 2) (i := 2) (arg_int Try.underlying3 (by kernel_rfl)) (hf 2 _ rfl) (by omega)
  cases q2
  exact ⟨⟨y0, y1, y2⟩, rfl, ⟨w0, w1, w2⟩, rfl, rfl⟩
def wf_law12_Act : S_law12_Act → Prop := fun x => (inK .i64) x.Kind ∧ wf_api_Spot x.At ∧ (wfL (inK .i8)) x.K ∧ (wfL (inK .i8)) x.V
theorem arg_law12_Act (w : World) : ArgB Try.prog w 33 6 R_law12_Act wf_law12_Act := by
  refine ⟨by kernel_rfl, fun enc fuel cs x h => ?_⟩
  obtain ⟨xs, m, _, rfl, hl, hxl, hf⟩ := DataW.trod_struct Try.underlying33 h
  have hl : cs.length = 6 := hl.trans (by kernel_rfl)
  obtain ⟨c0, c1, c2, c3, c4, c5, rfl⟩ : ∃ c0 c1 c2 c3 c4 c5, cs = [c0, c1, c2, c3, c4, c5] := by
    match cs, hl with | [c0, c1, c2, c3, c4, c5], _ => exact ⟨c0, c1, c2, c3, c4, c5, rfl⟩
  have hxl : xs.length = 4 := hxl
  obtain ⟨y0, q0, w0⟩ := ArgB.fld (off := 0) (i := 0) (arg_int Try.underlying3 (by kernel_rfl)) (hf 0 _ rfl) (by omega)
  cases q0
  obtain ⟨y1, q1, w1⟩ := ArgB.fld (off := 1) (i := 1) (arg_api_Spot _) (hf 1 _ rfl) (by omega)
  cases q1
  obtain ⟨y2, q2, w2⟩ := ArgB.fld (off := 4) (i := 2) (arg_slice Try.underlying31 (by kernel_rfl) (arg_int Try.underlying45 (by kernel_rfl)) rfl) (hf 2 _ rfl) (by omega)
  obtain ⟨a2_0, k2_0, e2, h2_0⟩ := q2
  cases e2
  obtain ⟨y3, q3, w3⟩ := ArgB.fld (off := 5) (i := 3) (arg_slice Try.underlying31 (by kernel_rfl) (arg_int Try.underlying45 (by kernel_rfl)) rfl) (hf 3 _ rfl) (by omega)
  obtain ⟨a3_0, k3_0, e3, h3_0⟩ := q3
  cases e3
  exact ⟨⟨y0, y1, y2, y3⟩, ⟨_, _, _, _, rfl, h2_0, h3_0⟩, ⟨w0, w1, w2, w3⟩, rfl, rfl⟩
end
end Go.Pel

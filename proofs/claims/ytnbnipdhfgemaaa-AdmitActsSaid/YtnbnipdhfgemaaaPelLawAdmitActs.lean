/- The law AdmitActs: for every input it returns true, and what was handed in reads as it did. -/
import Derived.Test.YtnbnipdhfgemaaaRows
import Derived.Test.YtnbnipdhfgemaaaPelAdmitA
import Derived.Test.YtnbnipdhfgemaaaPelAdmitActs
import Derived.WalkKit
import Derived.ProofKit
import Derived.OpenShut
import Derived.ShutString
import Derived.ChangeOld
import Derived.Below
import Derived.SizedLaws
set_option linter.unusedVariables false
namespace Go.Proofs.Ytnbnipdhfgemaaa.admitActs
open Go.ChangeShapes Go.WideShapes Go.ChangeAt Go.RowKit Go.Pel
theorem own : ownKnob Try.prog.godebug = none := by kernel_rfl
theorem laidOut : laidOutB Try.prog = true := by kernel_rfl
set_option maxRecDepth 100000 in
theorem lifted (os : Os) (started : os.Started) (H : Type) (enc : TypeId × Value → H) :
    ReturnsInHanded {} Try.checked os 3 .any (Rows.admitActsSpec.pre6 enc Try.prog Try.f3 Rows.admitActsRow.domain false) (Rows.admitActsSpec.post enc Try.prog Try.f3 false true false false) := by
  refine returnsInHanded_of_change_sized (C := Try.checked) own started (by kernel_rfl) Try.func3
    (ChangeSpec.witness6 (enc := enc) (C := Try.checked) false ⟨#[], #[.agg #[.int .i64 0, .int .i64 0, .int .i64 0, .int .i64 0, .int .i64 0, .int .i64 0], .int .i64 0, .slice none 0 0], []⟩ 8 (by kernel_rfl) (by kernel_rfl) (by kernel_rfl) (by kernel_rfl)) ?_
  intro W base args ds gs before hval0 hW hcnd hsz0 _
  have hval : ∀ (j : Nat) t v, Try.f3.params[j]? = some t → args[j]? = some v → Value.okWide Try.prog W .any base t v := hval0
  have hW' := hW
  obtain ⟨p, q, hA0, hV, rfl, hfz, hnd⟩ := hW
  have hA : DataW.TrodAll enc Try.prog W 0 (fun _ => true) true Try.f3.params.toList args.toList ds p := hA0
  rw [Try.params3] at hA hval
  obtain ⟨v0, vs0, d0, ds0, p0, q0, hargs, rfl, rfl, h0, r0⟩ := trodAll_cons hA
  obtain ⟨v1, vs1, d1, ds1, p1, q1, rfl, rfl, rfl, h1, r1⟩ := trodAll_cons r0
  obtain ⟨v2, vs2, d2, ds2, p2, q2, rfl, rfl, rfl, h2, r2⟩ := trodAll_cons r1
  obtain ⟨rfl, rfl, rfl⟩ := trodAll_nil r2
  obtain rfl : args = #[v0, v1, v2] := by cases args; simp_all
  obtain ⟨rfl, rfl⟩ := trodVars_none hV
  have k0 := h0
  have lt0 : ∀ x ∈ p0, x.block < W.heap.size := by obtain ⟨m, hm⟩ := k0; exact DataW.trod_lt m _ _ _ hm
  obtain ⟨fu0, hf0⟩ := h0
  obtain ⟨y0, R0, w0, l0, _⟩ := ArgB.read (arg_api_Shape W) enc fu0 _ _ hf0
  obtain ⟨cs0, rfl, _⟩ := okWide_struct Try.underlying23 (hval 0 23 v0 rfl rfl)
  have k1 := h1
  have lt1 : ∀ x ∈ p1, x.block < W.heap.size := by obtain ⟨m, hm⟩ := k1; exact DataW.trod_lt m _ _ _ hm
  obtain ⟨fu1, hf1⟩ := h1
  obtain ⟨y1, R1, w1, l1, _⟩ := ArgB.read (arg_int Try.underlying3 (by kernel_rfl)) enc fu1 _ _ hf1
  obtain ⟨n1, rfl⟩ := okWide_int Try.underlying3 (hval 1 3 v1 rfl rfl)
  cases (show [Value.int .i64 n1] = [Value.int .i64 y1] from R1)
  have k2 := h2
  have lt2 : ∀ x ∈ p2, x.block < W.heap.size := by obtain ⟨m, hm⟩ := k2; exact DataW.trod_lt m _ _ _ hm
  obtain ⟨fu2, hf2⟩ := h2
  obtain ⟨y2, R2, w2, l2, _⟩ := ArgB.read (arg_slice Try.underlying24 (by kernel_rfl) (arg_law21_Act _) rfl) enc fu2 _ _ hf2
  obtain ⟨a2, len2, cap2, rfl⟩ := okWide_slice Try.underlying24 (hval 2 24 v2 rfl rfl)
  obtain ⟨a2', c2', e2, R2⟩ := R2
  cases (show [Value.slice a2 len2 cap2] = [Value.slice a2' y2.length c2'] from e2)
  clear hA0 hval0 hsz0
  have hcall := law21_AdmitActs_ok (F := ⟨W, W.heap.size, []⟩) (χ := []) (const_api_Shape _ _ _ _ R0) R2 (Go.Pel.law21_AdmitActs_true y0 y1 y2 w0 w1 w2) [] W (Sat.start W)
  refine hcall.mono fun e W' ⟨v, he, hv⟩ => ?_
  obtain ⟨rfl, hs⟩ := hv
  subst he
  have bel : Below W.heap.size W W' := hs.below
  exact ⟨_, rfl, _, _, _, [], _, [], hW', trodAll_mk1 (shut_bool Try.underlying4 _), (trodAll_cons_mk (Below.trod laidOut (by kernel_rfl) (of_decide_eq_true (by kernel_rfl)) k0 bel lt0) (trodAll_cons_mk (Below.trod laidOut (by kernel_rfl) (of_decide_eq_true (by kernel_rfl)) k1 bel lt1) (trodAll_cons_mk (Below.trod laidOut (by kernel_rfl) (of_decide_eq_true (by kernel_rfl)) k2 bel lt2) trodAll_mk0))), rfl, bel.frame _, fun h => by cases h⟩
theorem over : Rows.admitActsRow.holds Try.pinned (OpenSpec.ofChange Rows.admitActsSpec) :=
  OpenClaim.holds_of_wide 3 Try.f3 rfl rfl rfl rfl rfl rfl rfl ⟨rfl, rfl, rfl, rfl, rfl⟩ rfl rfl rfl rfl rfl (by kernel_rfl) Try.func3 (by kernel_rfl)
    (of_decide_eq_true (by kernel_rfl)) (by unfold Func.isWrapper; first | (rw [if_pos (by decide +kernel)]; kernel_rfl) | (rw [if_neg (by decide +kernel)]; exact ⟨rfl, rfl⟩))
    (fun os started H enc _ => lifted os started H enc)
theorem proved : Rows.AdmitActsSaid := over
end Go.Proofs.Ytnbnipdhfgemaaa.admitActs
namespace Go.Proofs.Ytnbnipdhfgemaaa
theorem admitActs_holds : Rows.AdmitActsSaid := admitActs.proved
#print axioms admitActs_holds
end Go.Proofs.Ytnbnipdhfgemaaa

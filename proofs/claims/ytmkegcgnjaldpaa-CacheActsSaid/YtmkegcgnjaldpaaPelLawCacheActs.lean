/- The law CacheActs: for every input it returns true, and what was handed in reads as it did. -/
import Derived.Test.YtmkegcgnjaldpaaRows
import Derived.Test.YtmkegcgnjaldpaaPelCxA
import Derived.Test.YtmkegcgnjaldpaaPelCacheActs
import Derived.WalkKit
import Derived.ProofKit
import Derived.OpenShut
import Derived.ShutString
import Derived.ChangeOld
import Derived.Below
import Derived.SizedLaws
set_option linter.unusedVariables false
namespace Go.Proofs.Ytmkegcgnjaldpaa.cacheActs
open Go.ChangeShapes Go.WideShapes Go.ChangeAt Go.RowKit Go.Pel
theorem own : ownKnob Try.prog.godebug = none := by kernel_rfl
theorem laidOut : laidOutB Try.prog = true := by kernel_rfl
set_option maxRecDepth 100000 in
theorem lifted (os : Os) (started : os.Started) (H : Type) (enc : TypeId × Value → H) :
    ReturnsInHanded {} Try.checked os 5 .any (Rows.cacheActsSpec.pre6 enc Try.prog Try.f5 Rows.cacheActsRow.domain false) (Rows.cacheActsSpec.post enc Try.prog Try.f5 false true false false) := by
  refine returnsInHanded_of_change_sized (C := Try.checked) own started (by kernel_rfl) Try.func5
    (ChangeSpec.witness6 (enc := enc) (C := Try.checked) false ⟨#[], #[.int .i64 0, .slice none 0 0], []⟩ 8 (by kernel_rfl) (by kernel_rfl) (by kernel_rfl) (by kernel_rfl)) ?_
  intro W base args ds gs before hval0 hW hcnd hsz0 _
  have hval : ∀ (j : Nat) t v, Try.f5.params[j]? = some t → args[j]? = some v → Value.okWide Try.prog W .any base t v := hval0
  have hW' := hW
  obtain ⟨p, q, hA0, hV, rfl, hfz, hnd⟩ := hW
  have hA : DataW.TrodAll enc Try.prog W 0 (fun _ => true) true Try.f5.params.toList args.toList ds p := hA0
  rw [Try.params5] at hA hval
  obtain ⟨v0, vs0, d0, ds0, p0, q0, hargs, rfl, rfl, h0, r0⟩ := trodAll_cons hA
  obtain ⟨v1, vs1, d1, ds1, p1, q1, rfl, rfl, rfl, h1, r1⟩ := trodAll_cons r0
  obtain ⟨rfl, rfl, rfl⟩ := trodAll_nil r1
  obtain rfl : args = #[v0, v1] := by cases args; simp_all
  obtain ⟨rfl, rfl⟩ := trodVars_none hV
  have k0 := h0
  have lt0 : ∀ x ∈ p0, x.block < W.heap.size := by obtain ⟨m, hm⟩ := k0; exact DataW.trod_lt m _ _ _ hm
  obtain ⟨fu0, hf0⟩ := h0
  obtain ⟨y0, R0, w0, l0, _⟩ := ArgB.read (arg_int Try.underlying3 (by kernel_rfl)) enc fu0 _ _ hf0
  obtain ⟨n0, rfl⟩ := okWide_int Try.underlying3 (hval 0 3 v0 rfl rfl)
  cases (show [Value.int .i64 n0] = [Value.int .i64 y0] from R0)
  have k1 := h1
  have lt1 : ∀ x ∈ p1, x.block < W.heap.size := by obtain ⟨m, hm⟩ := k1; exact DataW.trod_lt m _ _ _ hm
  obtain ⟨fu1, hf1⟩ := h1
  obtain ⟨y1, R1, w1, l1, _⟩ := ArgB.read (arg_slice Try.underlying22 (by kernel_rfl) (arg_law12_Act _) rfl) enc fu1 _ _ hf1
  obtain ⟨a1, len1, cap1, rfl⟩ := okWide_slice Try.underlying22 (hval 1 22 v1 rfl rfl)
  obtain ⟨a1', c1', e1, R1⟩ := R1
  cases (show [Value.slice a1 len1 cap1] = [Value.slice a1' y1.length c1'] from e1)
  clear hA0 hval0 hsz0
  have hcall := law12_CacheActs_ok (F := ⟨W, W.heap.size, []⟩) (χ := []) R1 (Go.Pel.law12_CacheActs_true y0 y1 w0 w1) [] W (Sat.start W)
  refine hcall.mono fun e W' ⟨v, he, hv⟩ => ?_
  obtain ⟨rfl, hs⟩ := hv
  subst he
  have bel : Below W.heap.size W W' := hs.below
  exact ⟨_, rfl, _, _, _, [], _, [], hW', trodAll_mk1 (shut_bool Try.underlying4 _), (trodAll_cons_mk (Below.trod laidOut (by kernel_rfl) (of_decide_eq_true (by kernel_rfl)) k0 bel lt0) (trodAll_cons_mk (Below.trod laidOut (by kernel_rfl) (of_decide_eq_true (by kernel_rfl)) k1 bel lt1) trodAll_mk0)), rfl, bel.frame _, fun h => by cases h⟩
theorem over : Rows.cacheActsRow.holds Try.pinned (OpenSpec.ofChange Rows.cacheActsSpec) :=
  OpenClaim.holds_of_wide 5 Try.f5 rfl rfl rfl rfl rfl rfl rfl ⟨rfl, rfl, rfl, rfl, rfl⟩ rfl rfl rfl rfl rfl (by kernel_rfl) Try.func5 (by kernel_rfl)
    (of_decide_eq_true (by kernel_rfl)) (by unfold Func.isWrapper; first | (rw [if_pos (by decide +kernel)]; kernel_rfl) | (rw [if_neg (by decide +kernel)]; exact ⟨rfl, rfl⟩))
    (fun os started H enc _ => lifted os started H enc)
theorem proved : Rows.CacheActsSaid := over
end Go.Proofs.Ytmkegcgnjaldpaa.cacheActs
namespace Go.Proofs.Ytmkegcgnjaldpaa
theorem cacheActs_holds : Rows.CacheActsSaid := cacheActs.proved
#print axioms cacheActs_holds
end Go.Proofs.Ytmkegcgnjaldpaa

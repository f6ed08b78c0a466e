/- The law CacheApart: for every input it returns true, and what was handed in reads as it did. -/
import Derived.Test.YtmkegcgnjaldpaaRows
import Derived.Test.YtmkegcgnjaldpaaPelCaA
import Derived.Test.YtmkegcgnjaldpaaPelCacheApart
import Derived.WalkKit
import Derived.ProofKit
import Derived.OpenShut
import Derived.ShutString
import Derived.ChangeOld
import Derived.Below
import Derived.SizedLaws
set_option linter.unusedVariables false
namespace Go.Proofs.Ytmkegcgnjaldpaa.cacheApart
open Go.ChangeShapes Go.WideShapes Go.ChangeAt Go.RowKit Go.Pel
theorem own : ownKnob Try.prog.godebug = none := by kernel_rfl
theorem laidOut : laidOutB Try.prog = true := by kernel_rfl
set_option maxRecDepth 100000 in
theorem lifted (os : Os) (started : os.Started) (H : Type) (enc : TypeId × Value → H) :
    ReturnsInHanded {} Try.checked os 3 .any (Rows.cacheApartSpec.pre6 enc Try.prog Try.f3 Rows.cacheApartRow.domain false) (Rows.cacheApartSpec.post enc Try.prog Try.f3 false true false false) := by
  refine returnsInHanded_of_change_sized (C := Try.checked) own started (by kernel_rfl) Try.func3
    (ChangeSpec.witness6 (enc := enc) (C := Try.checked) false ⟨#[], #[.slice none 0 0], []⟩ 8 (by kernel_rfl) (by kernel_rfl) (by kernel_rfl) (by kernel_rfl)) ?_
  intro W base args ds gs before hval0 hW hcnd hsz0 _
  have hval : ∀ (j : Nat) t v, Try.f3.params[j]? = some t → args[j]? = some v → Value.okWide Try.prog W .any base t v := hval0
  have hW' := hW
  obtain ⟨p, q, hA0, hV, rfl, hfz, hnd⟩ := hW
  have hA : DataW.TrodAll enc Try.prog W 0 (fun _ => true) true Try.f3.params.toList args.toList ds p := hA0
  rw [Try.params3] at hA hval
  obtain ⟨v0, vs0, d0, ds0, p0, q0, hargs, rfl, rfl, h0, r0⟩ := trodAll_cons hA
  obtain ⟨rfl, rfl, rfl⟩ := trodAll_nil r0
  obtain rfl : args = #[v0] := by cases args; simp_all
  obtain ⟨rfl, rfl⟩ := trodVars_none hV
  have k0 := h0
  have lt0 : ∀ x ∈ p0, x.block < W.heap.size := by obtain ⟨m, hm⟩ := k0; exact DataW.trod_lt m _ _ _ hm
  obtain ⟨fu0, hf0⟩ := h0
  obtain ⟨y0, R0, w0, l0, _⟩ := ArgB.read (arg_slice Try.underlying22 (by kernel_rfl) (arg_law12_Act _) rfl) enc fu0 _ _ hf0
  obtain ⟨a0, len0, cap0, rfl⟩ := okWide_slice Try.underlying22 (hval 0 22 v0 rfl rfl)
  obtain ⟨a0', c0', e0, R0⟩ := R0
  cases (show [Value.slice a0 len0 cap0] = [Value.slice a0' y0.length c0'] from e0)
  clear hA0 hval0 hsz0
  have hcall := law12_CacheApart_ok (F := ⟨W, W.heap.size, []⟩) (χ := []) R0 (Go.Pel.law12_CacheApart_true y0 w0) [] W (Sat.start W)
  refine hcall.mono fun e W' ⟨v, he, hv⟩ => ?_
  obtain ⟨rfl, hs⟩ := hv
  subst he
  have bel : Below W.heap.size W W' := hs.below
  exact ⟨_, rfl, _, _, _, [], _, [], hW', trodAll_mk1 (shut_bool Try.underlying4 _), (trodAll_cons_mk (Below.trod laidOut (by kernel_rfl) (of_decide_eq_true (by kernel_rfl)) k0 bel lt0) trodAll_mk0), rfl, bel.frame _, fun h => by cases h⟩
theorem over : Rows.cacheApartRow.holds Try.pinned (OpenSpec.ofChange Rows.cacheApartSpec) :=
  OpenClaim.holds_of_wide 3 Try.f3 rfl rfl rfl rfl rfl rfl rfl ⟨rfl, rfl, rfl, rfl, rfl⟩ rfl rfl rfl rfl rfl (by kernel_rfl) Try.func3 (by kernel_rfl)
    (of_decide_eq_true (by kernel_rfl)) (by unfold Func.isWrapper; first | (rw [if_pos (by decide +kernel)]; kernel_rfl) | (rw [if_neg (by decide +kernel)]; exact ⟨rfl, rfl⟩))
    (fun os started H enc _ => lifted os started H enc)
theorem proved : Rows.CacheApartSaid := over
end Go.Proofs.Ytmkegcgnjaldpaa.cacheApart
namespace Go.Proofs.Ytmkegcgnjaldpaa
theorem cacheApart_holds : Rows.CacheApartSaid := cacheApart.proved
#print axioms cacheApart_holds
end Go.Proofs.Ytmkegcgnjaldpaa

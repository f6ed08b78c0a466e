/- The law CacheStays: for every input it returns true, and what was handed in reads as it did. -/
import Derived.Test.YtmkegcgnjaldpaaRows
import Derived.Test.YtmkegcgnjaldpaaPelCsA
import Derived.Test.YtmkegcgnjaldpaaPelCacheStays
import Derived.WalkKit
import Derived.ProofKit
import Derived.OpenShut
import Derived.ShutString
import Derived.ChangeOld
import Derived.Below
import Derived.SizedLaws
set_option linter.unusedVariables false
namespace Go.Proofs.Ytmkegcgnjaldpaa.cacheStays
open Go.ChangeShapes Go.WideShapes Go.ChangeAt Go.RowKit Go.Pel
theorem own : ownKnob Try.prog.godebug = none := by kernel_rfl
theorem laidOut : laidOutB Try.prog = true := by kernel_rfl
set_option maxRecDepth 100000 in
theorem lifted (os : Os) (started : os.Started) (H : Type) (enc : TypeId × Value → H) :
    ReturnsInHanded {} Try.checked os 4 .any (Rows.cacheStaysSpec.pre6 enc Try.prog Try.f4 Rows.cacheStaysRow.domain false) (Rows.cacheStaysSpec.post enc Try.prog Try.f4 false true false false) := by
  refine returnsInHanded_of_change_sized (C := Try.checked) own started (by kernel_rfl) Try.func4
    (ChangeSpec.witness6 (enc := enc) (C := Try.checked) false ⟨#[], #[.slice none 0 0, .slice none 0 0, .slice none 0 0], []⟩ 8 (by kernel_rfl) (by kernel_rfl) (by kernel_rfl) (by kernel_rfl)) ?_
  intro W base args ds gs before hval0 hW hcnd hsz0 _
  have hval : ∀ (j : Nat) t v, Try.f4.params[j]? = some t → args[j]? = some v → Value.okWide Try.prog W .any base t v := hval0
  have hW' := hW
  obtain ⟨p, q, hA0, hV, rfl, hfz, hnd⟩ := hW
  have hA : DataW.TrodAll enc Try.prog W 0 (fun _ => true) true Try.f4.params.toList args.toList ds p := hA0
  rw [Try.params4] at hA hval
  obtain ⟨v0, vs0, d0, ds0, p0, q0, hargs, rfl, rfl, h0, r0⟩ := trodAll_cons hA
  obtain ⟨v1, vs1, d1, ds1, p1, q1, rfl, rfl, rfl, h1, r1⟩ := trodAll_cons r0
  obtain ⟨v2, vs2, d2, ds2, p2, q2, rfl, rfl, rfl, h2, r2⟩ := trodAll_cons r1
  obtain ⟨rfl, rfl, rfl⟩ := trodAll_nil r2
  obtain rfl : args = #[v0, v1, v2] := by cases args; simp_all
  obtain ⟨rfl, rfl⟩ := trodVars_none hV
  have k0 := h0
  have lt0 : ∀ x ∈ p0, x.block < W.heap.size := by obtain ⟨m, hm⟩ := k0; exact DataW.trod_lt m _ _ _ hm
  obtain ⟨fu0, hf0⟩ := h0
  obtain ⟨y0, R0, w0, l0, _⟩ := ArgB.read (arg_slice Try.underlying31 (by kernel_rfl) (arg_int Try.underlying45 (by kernel_rfl)) rfl) enc fu0 _ _ hf0
  obtain ⟨a0, len0, cap0, rfl⟩ := okWide_slice Try.underlying31 (hval 0 31 v0 rfl rfl)
  obtain ⟨a0', c0', e0, R0⟩ := R0
  cases (show [Value.slice a0 len0 cap0] = [Value.slice a0' y0.length c0'] from e0)
  have k1 := h1
  have lt1 : ∀ x ∈ p1, x.block < W.heap.size := by obtain ⟨m, hm⟩ := k1; exact DataW.trod_lt m _ _ _ hm
  obtain ⟨fu1, hf1⟩ := h1
  obtain ⟨y1, R1, w1, l1, _⟩ := ArgB.read (arg_slice Try.underlying31 (by kernel_rfl) (arg_int Try.underlying45 (by kernel_rfl)) rfl) enc fu1 _ _ hf1
  obtain ⟨a1, len1, cap1, rfl⟩ := okWide_slice Try.underlying31 (hval 1 31 v1 rfl rfl)
  obtain ⟨a1', c1', e1, R1⟩ := R1
  cases (show [Value.slice a1 len1 cap1] = [Value.slice a1' y1.length c1'] from e1)
  have k2 := h2
  have lt2 : ∀ x ∈ p2, x.block < W.heap.size := by obtain ⟨m, hm⟩ := k2; exact DataW.trod_lt m _ _ _ hm
  obtain ⟨fu2, hf2⟩ := h2
  obtain ⟨y2, R2, w2, l2, _⟩ := ArgB.read (arg_slice Try.underlying22 (by kernel_rfl) (arg_law12_Act _) rfl) enc fu2 _ _ hf2
  obtain ⟨a2, len2, cap2, rfl⟩ := okWide_slice Try.underlying22 (hval 2 22 v2 rfl rfl)
  obtain ⟨a2', c2', e2, R2⟩ := R2
  cases (show [Value.slice a2 len2 cap2] = [Value.slice a2' y2.length c2'] from e2)
  clear hA0 hval0 hsz0
  have hcall := law12_CacheStays_ok (F := ⟨W, W.heap.size, []⟩) (χ := []) R0 R1 R2 (Go.Pel.law12_CacheStays_true y0 y1 y2 w0 w1 w2) [] W (Sat.start W)
  refine hcall.mono fun e W' ⟨v, he, hv⟩ => ?_
  obtain ⟨rfl, hs⟩ := hv
  subst he
  have bel : Below W.heap.size W W' := hs.below
  exact ⟨_, rfl, _, _, _, [], _, [], hW', trodAll_mk1 (shut_bool Try.underlying4 _), (trodAll_cons_mk (Below.trod laidOut (by kernel_rfl) (of_decide_eq_true (by kernel_rfl)) k0 bel lt0) (trodAll_cons_mk (Below.trod laidOut (by kernel_rfl) (of_decide_eq_true (by kernel_rfl)) k1 bel lt1) (trodAll_cons_mk (Below.trod laidOut (by kernel_rfl) (of_decide_eq_true (by kernel_rfl)) k2 bel lt2) trodAll_mk0))), rfl, bel.frame _, fun h => by cases h⟩
theorem over : Rows.cacheStaysRow.holds Try.pinned (OpenSpec.ofChange Rows.cacheStaysSpec) :=
  OpenClaim.holds_of_wide 4 Try.f4 rfl rfl rfl rfl rfl rfl rfl ⟨rfl, rfl, rfl, rfl, rfl⟩ rfl rfl rfl rfl rfl (by kernel_rfl) Try.func4 (by kernel_rfl)
    (of_decide_eq_true (by kernel_rfl)) (by unfold Func.isWrapper; first | (rw [if_pos (by decide +kernel)]; kernel_rfl) | (rw [if_neg (by decide +kernel)]; exact ⟨rfl, rfl⟩))
    (fun os started H enc _ => lifted os started H enc)
theorem proved : Rows.CacheStaysSaid := over
end Go.Proofs.Ytmkegcgnjaldpaa.cacheStays
namespace Go.Proofs.Ytmkegcgnjaldpaa
theorem cacheStays_holds : Rows.CacheStaysSaid := cacheStays.proved
#print axioms cacheStays_holds
end Go.Proofs.Ytmkegcgnjaldpaa

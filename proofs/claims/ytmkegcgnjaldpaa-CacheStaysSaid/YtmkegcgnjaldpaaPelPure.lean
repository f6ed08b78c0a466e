/- Plain laws on the pure functions: loops, lists, maps. -/
import Derived.Test.YtmkegcgnjaldpaaPelMaps
namespace Go.Pel
open Go.RowKit

theorem inK64 {x : Int} (h : -9223372036854775808 ≤ x ∧ x ≤ 9223372036854775807) : IntKind.min .i64 ≤ x ∧ x ≤ IntKind.max .i64 := by
  simpa [IntKind.min, IntKind.max, IntKind.bits, IntKind.signed] using h
theorem i64K {x : Int} (h : IntKind.min .i64 ≤ x ∧ x ≤ IntKind.max .i64) : -9223372036854775808 ≤ x ∧ x ≤ 9223372036854775807 := by
  simpa [IntKind.min, IntKind.max, IntKind.bits, IntKind.signed] using h
theorem wrapI {x : Int} (h : -9223372036854775808 ≤ x ∧ x ≤ 9223372036854775807) : IntKind.wrap .i64 x = x := by
  simp only [IntKind.wrap, IntKind.bits, IntKind.signed]
  simp; omega

section
variable {T X : Type} {body : T → Option (T ⊕ X)}
/-- A loop: what holds at each head, what gets smaller, what comes out. -/
theorem loopO_run (I : T → Prop) (μ : T → Nat) (Q : X → Prop) (h : ∀ s, I s → (∃ s', body s = some (.inl s') ∧ I s' ∧ μ s' < μ s) ∨ ∃ x, body s = some (.inr x) ∧ Q x) : ∀ s, I s → ∃ x, loopO body s = some x ∧ Q x := by
  have key : ∀ (n : Nat) s, μ s ≤ n → I s → ∃ x, loopO body s = some x ∧ Q x := by
    intro n
    induction n with
    | zero =>
      intro s hs hi
      rcases h s hi with ⟨s', _, _, hlt⟩ | ⟨x, hb, hq⟩
      · omega
      · exact ⟨x, by rw [loopO_eq, hb]; rfl, hq⟩
    | succ n ih =>
      intro s hs hi
      rcases h s hi with ⟨s', hb, hi', hlt⟩ | ⟨x, hb, hq⟩
      · obtain ⟨x, h1, h2⟩ := ih s' (by omega) hi'
        exact ⟨x, by rw [loopO_eq, hb]; exact h1, h2⟩
      · exact ⟨x, by rw [loopO_eq, hb]; rfl, hq⟩
  intro s hi
  exact key (μ s) s (Nat.le_refl _) hi
theorem loopO_next {s s' : T} (h : body s = some (.inl s')) : loopO body s = loopO body s' := by rw [loopO_eq, h]; rfl
theorem loopO_end {s : T} {x : X} (h : body s = some (.inr x)) : loopO body s = some x := by rw [loopO_eq, h]; rfl
end
/-- A loop over places: it ends at 'n', if not ahead of it. -/
theorem loop_upto {X : Type} {body : Int → Option (Int ⊕ X)} (n : Nat) (I : Nat → Prop) (Q : X → Prop) (h0 : I 0)
    (step : ∀ k, k < n → I k → (body k = some (.inl ((k + 1 : Nat) : Int)) ∧ I (k + 1)) ∨ ∃ x, body k = some (.inr x) ∧ Q x) (last : I n → ∃ x, body n = some (.inr x) ∧ Q x) : ∃ x, loopO body 0 = some x ∧ Q x := by
  refine loopO_run (fun s : Int => ∃ k : Nat, s = (k : Int) ∧ k ≤ n ∧ I k) (fun s : Int => n - s.toNat) Q ?_ (0 : Int) ⟨0, rfl, Nat.zero_le _, h0⟩
  rintro s ⟨k, rfl, hk, hi⟩
  by_cases hkn : k = n
  · subst hkn; exact .inr (last hi)
  · rcases step k (by omega) hi with ⟨hb, hi'⟩ | hx
    · exact .inl ⟨_, hb, ⟨k + 1, rfl, by omega, hi'⟩, by simp; omega⟩
    · exact .inr hx

section
variable {X : Type}
theorem getI_nat (xs : List X) (k : Nat) : getI xs (k : Int) = xs[k]? := by simp [getI]
theorem getI_lt {xs : List X} {k : Nat} (h : k < xs.length) : getI xs (k : Int) = some xs[k] := by rw [getI_nat, List.getElem?_eq_getElem h]
theorem app_of {xs ys : List X} (h : xs.length + ys.length ≤ lim) : app xs ys = some (xs ++ ys) := by simp [app, h]
theorem app_nil {ys : List X} (h : ys.length ≤ lim) : app ([] : List X) ys = some ys := by simp [app, h]
theorem lim_le {n : Nat} (h : n ≤ 274877906944) : n ≤ lim := h

/-- The first that meets 'p': what comes out there, or at the end. -/
theorem index_loop {Y : Type} (R : Nat → Y) (E : Y) (xs : List X) (p : X → Bool) (hn : xs.length ≤ 4611686018427387904) {body : Int → Option (Int ⊕ Y)}
    (hb : ∀ (k : Nat), body k = cond (decide ((k : Int) < (xs.length : Int))) ((getI xs k).bind fun x => cond (p x) (some (.inr (R k))) (some (.inl (IntKind.wrap .i64 ((k : Int) + 1))))) (some (.inr E))) :
    loopO body 0 = some (match xs.findIdx? p with | some i => R i | none => E) := by
  have key := loop_upto (body := body) xs.length (fun k => ∀ j, j < k → ∀ x, xs[j]? = some x → p x = false) (fun r => r = (match xs.findIdx? p with | some i => R i | none => E)) (fun j h => by omega) ?_ ?_
  · obtain ⟨x, h1, h2⟩ := key; rw [h1, h2]
  · intro k hk hi
    have hk' : ((k : Int) < (xs.length : Int)) := by omega
    rw [hb k]
    simp only [hk', decide_true, cond_true, getI_lt hk, Option.bind_some]
    cases hp : p xs[k] with
    | false =>
      refine .inl ⟨by rw [cond_false, wrapI (by omega)]; simp, fun j hj x hx => ?_⟩
      by_cases e : j = k
      · subst e
        rw [List.getElem?_eq_getElem hk] at hx
        cases hx; exact hp
      · exact hi j (by omega) x hx
    | true =>
      refine .inr ⟨_, rfl, ?_⟩
      have : xs.findIdx? p = some k := by
        rw [List.findIdx?_eq_some_iff_getElem]
        refine ⟨hk, hp, fun j hj => ?_⟩
        have := hi j hj xs[j] (List.getElem?_eq_getElem (by omega))
        simp [this]
      rw [this]
  · intro hi
    refine ⟨E, by rw [hb]; simp, ?_⟩
    have : xs.findIdx? p = none := by
      rw [List.findIdx?_eq_none_iff]
      intro x hx
      obtain ⟨j, hj⟩ := List.getElem?_of_mem hx
      exact hi j (List.getElem?_eq_some_iff.1 hj).1 x hj
    rw [this]
theorem index_any {Y : Type} (A E : Y) (xs : List X) (p : X → Bool) : (match xs.findIdx? p with | some _ => A | none => E) = if xs.any p then A else E := by
  cases h : xs.findIdx? p with
  | none =>
    rw [List.findIdx?_eq_none_iff] at h
    have : xs.any p = false := by rw [List.any_eq_false]; intro x hx; simp [h x hx]
    simp [this]
  | some i =>
    rw [List.findIdx?_eq_some_iff_getElem] at h
    obtain ⟨h1, h2, _⟩ := h
    have : xs.any p = true := List.any_eq_true.2 ⟨_, List.getElem_mem h1, h2⟩
    simp [this]
/-- Does one of them meet 'p'? -/
theorem any_loop {Y : Type} (A E : Y) (xs : List X) (p : X → Bool) (hn : xs.length ≤ 4611686018427387904) {body : Int → Option (Int ⊕ Y)}
    (hb : ∀ (k : Nat), body k = cond (decide ((k : Int) < (xs.length : Int))) ((getI xs k).bind fun x => cond (p x) (some (.inr A)) (some (.inl (IntKind.wrap .i64 ((k : Int) + 1))))) (some (.inr E))) :
    loopO body 0 = some (if xs.any p then A else E) := by
  rw [index_loop (fun _ => A) E xs p hn hb, index_any]
/-- Two lists of one length, place by place. -/
theorem eq_loop [DecidableEq X] {Y : Type} (A E : Y) (xs ys : List X) (hl : xs.length = ys.length) (hn : xs.length ≤ 4611686018427387904) {body : Int → Option (Int ⊕ Y)}
    (hb : ∀ (k : Nat), body k = cond (decide ((k : Int) < (xs.length : Int))) ((getI xs k).bind fun x => (getI ys k).bind fun y => cond (!decide (x = y)) (some (.inr A)) (some (.inl (IntKind.wrap .i64 ((k : Int) + 1))))) (some (.inr E))) :
    loopO body 0 = some (if xs = ys then E else A) := by
  have key := loop_upto (body := body) xs.length (fun k => xs.take k = ys.take k) (fun r => r = if xs = ys then E else A) (by simp) ?_ ?_
  · obtain ⟨x, h1, h2⟩ := key; rw [h1, h2]
  · intro k hk hi
    have hk' : ((k : Int) < (xs.length : Int)) := by omega
    have hky : k < ys.length := by omega
    rw [hb k]
    simp only [hk', decide_true, cond_true, getI_lt hk, getI_lt hky, Option.bind_some]
    by_cases he : xs[k] = ys[k]
    · refine .inl ⟨by simp only [he, decide_true, Bool.not_true, cond_false]; rw [wrapI (by omega)]; simp, ?_⟩
      rw [List.take_succ_eq_append_getElem hk, List.take_succ_eq_append_getElem hky, hi, he]
    · refine .inr ⟨A, by simp [he], ?_⟩
      have : ¬ xs = ys := fun e => he (by subst e; rfl)
      rw [if_neg this]
  · intro hi
    refine ⟨E, by rw [hb]; simp, ?_⟩
    rw [List.take_length, hl, List.take_length] at hi
    rw [if_pos hi]

/-- slices.DeleteFunc: the loop behind the first that goes. -/
theorem delete_loop (xs0 : List X) (p : X → Bool) (hn : xs0.length ≤ 4611686018427387904) {body : List X × Int × Int → Option ((List X × Int × Int) ⊕ (List X × Int))}
    (hb : ∀ (xs : List X) (i k : Nat), body (xs, (i : Int), (k : Int)) = cond (decide ((k : Int) < (xs.length : Int))) ((getI xs k).bind fun x => cond (!p x) ((getI xs i).bind fun _ => some (.inl (List.set xs (Int.toNat i) x, IntKind.wrap .i64 ((i : Int) + 1), IntKind.wrap .i64 ((k : Int) + 1)))) (some (.inl (xs, (i : Int), IntKind.wrap .i64 ((k : Int) + 1))))) (some (.inr (xs, (i : Int)))))
    (i0 : Nat) (hi0 : i0 < xs0.length) (hf : ∀ j, j < i0 → ∀ x, xs0[j]? = some x → p x = false) (hp : p xs0[i0] = true) :
    ∃ xs i, loopO body (xs0, (i0 : Int), ((i0 + 1 : Nat) : Int)) = some (xs, ((i : Nat) : Int)) ∧ i ≤ xs.length ∧ xs.take i = xs0.filter (fun x => !p x) ∧ xs.length = xs0.length := by
  have key := loopO_run (body := body) (fun s => ∃ (xs : List X) (i k : Nat), s = (xs, (i : Int), (k : Int)) ∧ i < k ∧ k ≤ xs0.length ∧ xs.length = xs0.length ∧ xs.take i = (xs0.take k).filter (fun x => !p x) ∧ xs.drop k = xs0.drop k)
    (fun s => xs0.length - s.2.2.toNat) (fun r => ∃ (xs : List X) (i : Nat), r = (xs, (i : Int)) ∧ i ≤ xs.length ∧ xs.take i = xs0.filter (fun x => !p x) ∧ xs.length = xs0.length) ?_ (xs0, (i0 : Int), ((i0 + 1 : Nat) : Int)) ?_
  · obtain ⟨r, h1, xs, i, rfl, h2, h3, h4⟩ := key
    exact ⟨xs, i, h1, h2, h3, h4⟩
  · rintro s ⟨xs, i, k, rfl, hik, hk, hl, ht, hd⟩
    by_cases hkn : k = xs0.length
    · refine .inr ⟨_, by rw [hb]; simp [hkn, hl], xs, i, rfl, by omega, ?_, hl⟩
      rw [ht, hkn, List.take_length]
    · left
      have hlt : k < xs.length := by omega
      have hlt0 : k < xs0.length := by omega
      have hlt' : ((k : Int) < (xs.length : Int)) := by omega
      have hxk : xs[k] = xs0[k] := by
        have h1 : (xs.drop k)[0]? = (xs0.drop k)[0]? := by rw [hd]
        simp [List.getElem?_drop, List.getElem?_eq_getElem hlt, List.getElem?_eq_getElem hlt0] at h1
        exact h1
      have htk : xs0.take (k + 1) = xs0.take k ++ [xs0[k]] := by rw [List.take_succ_eq_append_getElem hlt0]
      have hdk : xs.drop (k + 1) = xs0.drop (k + 1) := by
        have := congrArg (List.drop 1) hd
        simpa [List.drop_drop, Nat.add_comm] using this
      rw [hb]
      simp only [hlt', decide_true, cond_true, getI_lt hlt, Option.bind_some, getI_lt (show i < xs.length by omega), hxk]
      cases hpk : p xs0[k] with
      | true =>
        refine ⟨_, by simp only [Bool.not_true, cond_false]; rfl, ⟨xs, i, k + 1, ?_, by omega, by omega, hl, ?_, hdk⟩, ?_⟩
        · rw [wrapI (by omega)]; simp
        · rw [htk, List.filter_append, ht]; simp [hpk]
        · simp only [wrapI (show -9223372036854775808 ≤ ((k : Int) + 1) ∧ ((k : Int) + 1) ≤ 9223372036854775807 by omega)]; simp; omega
      | false =>
        refine ⟨_, by simp only [Bool.not_false, cond_true]; rfl, ⟨xs.set i xs0[k], i + 1, k + 1, ?_, by omega, by omega, by simpa using hl, ?_, ?_⟩, ?_⟩
        · rw [wrapI (by omega), wrapI (by omega)]; simp
        · rw [htk, List.filter_append, ← ht]
          have hil : i < xs.length := by omega
          rw [List.take_succ_eq_append_getElem (by simpa using hil), List.take_set_of_le (Nat.le_refl _)]
          simp [hpk]
        · rw [List.drop_set_of_lt (by omega)]; exact hdk
        · simp only [wrapI (show -9223372036854775808 ≤ ((k : Int) + 1) ∧ ((k : Int) + 1) ≤ 9223372036854775807 by omega)]; simp; omega
  · refine ⟨xs0, i0, i0 + 1, rfl, by omega, by omega, rfl, ?_, rfl⟩
    rw [List.take_succ_eq_append_getElem hi0, List.filter_append]
    have : (xs0.take i0).filter (fun x => !p x) = xs0.take i0 := by
      rw [List.filter_eq_self]
      intro x hx
      obtain ⟨j, hj⟩ := List.getElem?_of_mem hx
      rw [List.getElem?_take] at hj
      split at hj
      · rename_i hji; simp [hf j hji x hj]
      · cases hj
    rw [this]; simp [hp]
end

section
variable {X : Type}
/-- Those that meet 'p', laid one behind the other. -/
theorem filter_loop (xs : List X) (p : X → Bool) (hn : xs.length ≤ 274877906944) {body : List X × Int → Option ((List X × Int) ⊕ List X)}
    (hb : ∀ (acc : List X) (k : Nat), body (acc, (k : Int)) = cond (decide ((k : Int) < (xs.length : Int))) ((getI xs k).bind fun x => cond (p x) ((getI xs k).bind fun y => (app acc [y]).bind fun z => some (.inl (z, IntKind.wrap .i64 ((k : Int) + 1)))) (some (.inl (acc, IntKind.wrap .i64 ((k : Int) + 1))))) (some (.inr acc))) :
    loopO body ([], 0) = some (xs.filter p) := by
  have key := loopO_run (body := body) (fun s => ∃ k : Nat, s = ((xs.take k).filter p, (k : Int)) ∧ k ≤ xs.length) (fun s => xs.length - s.2.toNat) (fun r => r = xs.filter p) ?_ ([], 0) ⟨0, rfl, Nat.zero_le _⟩
  · obtain ⟨x, h1, rfl⟩ := key; exact h1
  · rintro s ⟨k, rfl, hk⟩
    by_cases hkn : k = xs.length
    · subst hkn
      exact .inr ⟨xs.filter p, by rw [hb]; simp, rfl⟩
    · have hlt : k < xs.length := by omega
      have hlt' : ((k : Int) < (xs.length : Int)) := by omega
      have hfl := List.length_filter_le p (xs.take k)
      have hfl2 : (xs.take k).length = k := by rw [List.length_take]; omega
      left
      refine ⟨((xs.take (k + 1)).filter p, ((k + 1 : Nat) : Int)), ?_, ⟨k + 1, rfl, by omega⟩, by simp; omega⟩
      have e1 : IntKind.wrap .i64 ((k : Int) + 1) = ((k + 1 : Nat) : Int) := by rw [wrapI (by omega)]; simp
      rw [hb]
      simp only [hlt', decide_true, cond_true, getI_lt hlt, Option.bind_some, e1]
      rw [List.take_succ_eq_append_getElem hlt, List.filter_append]
      cases hp : p xs[k] with
      | true =>
        rw [cond_true, app_of (by simp only [List.length_singleton]; unfold lim; omega)]
        simp [hp]
      | false => simp [hp]
theorem filter_loop3 (xs : List X) (p : X → Bool) (hn : xs.length ≤ 274877906944) {body : List X × Int × List X → Option ((List X × Int × List X) ⊕ (List X × List X))}
    (hb : ∀ (acc : List X) (k : Nat), body (acc, (k : Int), xs) = cond (decide ((k : Int) < (xs.length : Int))) ((getI xs k).bind fun x => cond (p x) ((getI xs k).bind fun y => (app acc [y]).bind fun z => some (.inl (z, IntKind.wrap .i64 ((k : Int) + 1), xs))) (some (.inl (acc, IntKind.wrap .i64 ((k : Int) + 1), xs)))) (some (.inr (acc, xs)))) :
    loopO body ([], 0, xs) = some (xs.filter p, xs) := by
  have key := loopO_run (body := body) (fun s => ∃ k : Nat, s = ((xs.take k).filter p, (k : Int), xs) ∧ k ≤ xs.length) (fun s => xs.length - s.2.1.toNat) (fun r => r = (xs.filter p, xs)) ?_ ([], 0, xs) ⟨0, rfl, Nat.zero_le _⟩
  · obtain ⟨x, h1, rfl⟩ := key; exact h1
  · rintro s ⟨k, rfl, hk⟩
    by_cases hkn : k = xs.length
    · subst hkn
      exact .inr ⟨(xs.filter p, xs), by rw [hb]; simp, rfl⟩
    · have hlt : k < xs.length := by omega
      have hlt' : ((k : Int) < (xs.length : Int)) := by omega
      have hfl := List.length_filter_le p (xs.take k)
      have hfl2 : (xs.take k).length = k := by rw [List.length_take]; omega
      left
      refine ⟨((xs.take (k + 1)).filter p, ((k + 1 : Nat) : Int), xs), ?_, ⟨k + 1, rfl, by omega⟩, by simp; omega⟩
      have e1 : IntKind.wrap .i64 ((k : Int) + 1) = ((k + 1 : Nat) : Int) := by rw [wrapI (by omega)]; simp
      rw [hb]
      simp only [hlt', decide_true, cond_true, getI_lt hlt, Option.bind_some, e1]
      rw [List.take_succ_eq_append_getElem hlt, List.filter_append]
      cases hp : p xs[k] with
      | true =>
        rw [cond_true, app_of (by simp only [List.length_singleton]; unfold lim; omega)]
        simp [hp]
      | false => simp [hp]
end

/-! ### Maps -/
section
variable {K V : Type} [DecidableEq K]
theorem mget_nil (k : K) : mget ([] : List (K × V)) k = none := rfl
theorem mget_cons (p : K × V) (m : List (K × V)) (k : K) : mget (p :: m) k = if p.1 = k then some p.2 else mget m k := by
  unfold mget
  by_cases h : p.1 = k <;> simp [h]
theorem mget_map (m : List (K × V)) (k k' : K) (v : V) : mget (m.map fun p => if p.1 = k then (k, v) else p) k' = if k' = k then (mget m k).map (fun _ => v) else mget m k' := by
  induction m with
  | nil => simp [mget_nil]
  | cons p m ih =>
    simp only [List.map_cons, mget_cons, ih]
    by_cases hpk : p.1 = k
    · by_cases hk : k' = k
      · simp [hpk, hk]
      · have : ¬ k = k' := fun e => hk e.symm
        simp [hpk, hk, this]
    · by_cases hk : k' = k
      · subst hk; simp [hpk]
      · simp [hpk, hk]
theorem mget_append (m : List (K × V)) (k k' : K) (v : V) : mget (m ++ [(k, v)]) k' = (mget m k').or (if k = k' then some v else none) := by
  induction m with
  | nil => simp [mget_nil, mget_cons]
  | cons p m ih =>
    simp only [List.cons_append, mget_cons, ih]
    split <;> simp
theorem mget_any (m : List (K × V)) (k : K) : m.any (fun p => decide (p.1 = k)) = (mget m k).isSome := by
  induction m with
  | nil => rfl
  | cons p m ih =>
    simp only [List.any_cons, mget_cons, ih]
    split <;> simp [*]
theorem mget_mput (m : List (K × V)) (k k' : K) (v : V) : mget (mput m k v) k' = if k' = k then some v else mget m k' := by
  unfold mput
  rw [mget_any]
  split
  · rename_i h
    rw [mget_map]
    obtain ⟨u, hu⟩ := Option.isSome_iff_exists.1 h
    simp [hu]
  · rename_i h
    have h0 : mget m k = none := by simpa using h
    rw [mget_append]
    by_cases hk : k' = k
    · subst hk; simp [h0]
    · have : ¬ k = k' := fun e => hk e.symm
      simp [hk, this]
theorem mget_mdel (m : List (K × V)) (k k' : K) : mget (mdel m k) k' = if k' = k then none else mget m k' := by
  unfold mdel
  induction m with
  | nil => simp [mget_nil]
  | cons p m ih =>
    by_cases hpk : p.1 = k
    · by_cases hk : k' = k
      · subst hk; simp only [if_true] at ih; simp [hpk, ih]
      · have : ¬ k = k' := fun e => hk e.symm
        simp [hpk, ih, hk, mget_cons, this]
    · by_cases hk : k' = k
      · subst hk; simp [hpk, ih, mget_cons]
      · simp [hpk, ih, mget_cons, hk]
end
end Go.Pel

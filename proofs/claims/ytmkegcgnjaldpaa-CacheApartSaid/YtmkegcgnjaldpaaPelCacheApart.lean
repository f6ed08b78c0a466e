/- CacheApart: requests and layers do not touch one another. (CacheSpec's text over this law's print: PelCacheSpecA.) -/
import Derived.Test.YtmkegcgnjaldpaaPelCacheSpecA
set_option linter.unusedVariables false
namespace Go.Pel
open Go.RowKit Go.Proofs

def sub (m : CM) (r l : Int) : CM := m.filter fun p => decide (p.1.Request = r ∧ p.1.Layer = l)
def owns (m : CM) : List S_cache_Store := [⟨1000, sub m 0 0⟩, ⟨1000, sub m 0 1⟩, ⟨1000, sub m 1 0⟩, ⟨1000, sub m 1 1⟩, ⟨1000, sub m 2 0⟩, ⟨1000, sub m 2 1⟩]
structure InA (k : Nat) (m : CM) : Prop where
  wf : WfC k m
  req : ∀ p ∈ m, p.1.Request = 0 ∨ p.1.Request = 1 ∨ p.1.Request = 2
  lay : ∀ p ∈ m, p.1.Layer = 0 ∨ p.1.Layer = 1
theorem sub_wf {k : Nat} {m : CM} (h : WfC k m) (r l : Int) : WfC k (sub m r l) :=
  ⟨Nat.le_trans (List.length_filter_le ..) h.len, h.small, h.keys.sublist (List.filter_sublist.map _), fun p hp => h.ent p (List.mem_filter.1 hp).1⟩
theorem mget_sub (m : CM) (a : S_api_Spot) (r l : Int) (hr : a.Request = r) (hl : a.Layer = l) : mget (sub m r l) a = mget m a := by
  induction m with
  | nil => rfl
  | cons p m ih =>
    rw [mget_cons]
    unfold sub
    rw [List.filter_cons]
    by_cases h : p.1.Request = r ∧ p.1.Layer = l
    · rw [if_pos (by simpa using h), mget_cons]
      split
      · rfl
      · exact ih
    · rw [if_neg (by simpa using h)]
      have : p.1 ≠ a := fun e => h (by rw [e]; exact ⟨hr, hl⟩)
      rw [if_neg this]
      exact ih
theorem sub_push (m : CM) (a : S_api_Spot) (v : S_cache_rows) (r l : Int) : sub (m ++ [(a, v)]) r l = if a.Request = r ∧ a.Layer = l then sub m r l ++ [(a, v)] else sub m r l := by
  unfold sub
  rw [List.filter_append]
  by_cases h : a.Request = r ∧ a.Layer = l <;> simp [h]
/-- What is laid at a spot: in the one store, and in that of its request and layer. -/
theorem putE_sub {k : Nat} {m : CM} (h : WfC k m) (hk : k ≤ 900) (a : S_api_Spot) (x v : List Int) (r l : Int) (hr : a.Request = r) (hl : a.Layer = l) :
    putE 1000 (sub m r l) a x v = ((putE 1000 m a x v).1, sub (putE 1000 m a x v).2 r l) ∧ ∀ r' l', ¬ (r' = r ∧ l' = l) → sub (putE 1000 m a x v).2 r' l' = sub m r' l' := by
  have e1 : mget (sub m r l) a = mget m a := mget_sub m a r l hr hl
  have e2 : aheadB (sub m r l) a = aheadB m a := by unfold aheadB; rw [mget_sub m (prev a) r l hr hl]
  have hlen := h.len
  have hsl : (sub m r l).length ≤ m.length := List.length_filter_le ..
  unfold putE
  rw [e1, e2]
  split
  · exact ⟨rfl, fun _ _ _ => rfl⟩
  split
  · exact ⟨rfl, fun _ _ _ => rfl⟩
  split
  · exact ⟨rfl, fun _ _ _ => rfl⟩
  cases hg : mget m a with
  | some old =>
    simp only
    split <;> exact ⟨rfl, fun _ _ _ => rfl⟩
  | none =>
    simp only
    rw [if_neg (by omega), if_neg (by omega), mput_new _ hg, mput_new _ (by rw [e1]; exact hg)]
    refine ⟨by rw [sub_push, if_pos ⟨hr, hl⟩], fun r' l' hne => ?_⟩
    simp only
    rw [sub_push, if_neg (fun h' => hne ⟨h'.1.symm.trans hr, h'.2.symm.trans hl⟩)]
theorem putE_in {k : Nat} {m : CM} (h : InA k m) (hk : k ≤ 900) {a : S_api_Spot} {x v : List Int} (hr : a.Request = 0 ∨ a.Request = 1 ∨ a.Request = 2) (hl : a.Layer = 0 ∨ a.Layer = 1) (hp : a.Place ≤ 9223372036854775807) (hx : x.length ≤ 100) (hv : v.length ≤ 100) : InA (k + 1) (putE 1000 m a x v).2 := by
  refine ⟨h.wf.put ⟨by omega, by omega, hp⟩ hx hv (by omega), ?_, ?_⟩
  all_goals
    intro p hpm
    have : p ∈ m ∨ p = (a, ⟨x, v⟩) := by
      unfold putE at hpm
      split at hpm
      · exact .inl hpm
      split at hpm
      · exact .inl hpm
      split at hpm
      · exact .inl hpm
      split at hpm
      · split at hpm <;> exact .inl hpm
      · rename_i hg
        split at hpm
        · exact .inl hpm
        · have hpm : p ∈ mput m a ⟨x, v⟩ := hpm
          rw [mput_new _ hg] at hpm
          rcases List.mem_append.1 hpm with h1 | h1
          · exact .inl h1
          · simp at h1; exact .inr h1
    rcases this with h1 | rfl
    · first | exact h.req p h1 | exact h.lay p h1
    · first | exact hr | exact hl
theorem sub_drop_same (m : CM) (r l : Int) : sub (dropM m r) r l = [] := by
  unfold sub dropM
  rw [List.filter_filter, List.filter_eq_nil_iff]
  intro p _
  simp; intro h _; exact h
theorem sub_drop_other (m : CM) (r r' l : Int) (h : r' ≠ r) : sub (dropM m r) r' l = sub m r' l := by
  unfold sub dropM
  rw [List.filter_filter]
  apply List.filter_congr
  intro p _
  by_cases h1 : p.1.Request = r'
  · have : p.1.Request ≠ r := fun e => h (h1.symm.trans e)
    simp [h1, h]
  · simp [h1]
theorem dropM_sub (m : CM) (r l : Int) : dropM (sub m r l) r = [] := by
  unfold sub dropM
  rw [List.filter_filter, List.filter_eq_nil_iff]
  intro p _
  simp
  intro h1 h2
  exact absurd h2 h1
theorem sub_cons (p : S_api_Spot × S_cache_rows) (m : CM) (r l : Int) : sub (p :: m) r l = if p.1.Request = r ∧ p.1.Layer = l then p :: sub m r l else sub m r l := by
  unfold sub
  rw [List.filter_cons]
  by_cases h : p.1.Request = r ∧ p.1.Layer = l
  · rw [if_pos (by simpa using h), if_pos h]
  · rw [if_neg (by simpa using h), if_neg h]
theorem dropM_cons (p : S_api_Spot × S_cache_rows) (m : CM) (r : Int) : dropM (p :: m) r = if p.1.Request = r then dropM m r else p :: dropM m r := by
  unfold dropM
  rw [List.filter_cons]
  by_cases h : p.1.Request = r <;> simp [h]
theorem drop_count (m : CM) (r : Int) (h : ∀ p ∈ m, p.1.Layer = 0 ∨ p.1.Layer = 1) : m.length = (dropM m r).length + ((sub m r 0).length + (sub m r 1).length) := by
  induction m with
  | nil => rfl
  | cons p m ih =>
    have ih := ih (fun q hq => h q (List.mem_cons_of_mem _ hq))
    have hp := h p (List.mem_cons_self ..)
    rw [sub_cons, sub_cons, dropM_cons, List.length_cons]
    by_cases h1 : p.1.Request = r
    · rcases hp with h2 | h2
      · simp [h1, h2]; omega
      · simp [h1, h2]; omega
    · simp [h1]; omega
theorem all_count (m : CM) (hr : ∀ p ∈ m, p.1.Request = 0 ∨ p.1.Request = 1 ∨ p.1.Request = 2) (hl : ∀ p ∈ m, p.1.Layer = 0 ∨ p.1.Layer = 1) :
    m.length = (sub m 0 0).length + (sub m 0 1).length + (sub m 1 0).length + (sub m 1 1).length + (sub m 2 0).length + (sub m 2 1).length := by
  induction m with
  | nil => rfl
  | cons p m ih =>
    have ih := ih (fun q hq => hr q (List.mem_cons_of_mem _ hq)) (fun q hq => hl q (List.mem_cons_of_mem _ hq))
    have h1 := hr p (List.mem_cons_self ..)
    have h2 := hl p (List.mem_cons_self ..)
    simp only [sub_cons, List.length_cons]
    rcases h1 with h1 | h1 | h1 <;> rcases h2 with h2 | h2 <;> simp [h1, h2] <;> omega
theorem line_len {k : Nat} {m : CM} (h : WfC k m) (r l : Int) : ∃ a b a' b', cache_Store_Line_vm ⟨1000, m⟩ r l = some (a, b) ∧ cache_Store_Line_vm ⟨1000, sub m r l⟩ r l = some (a', b') ∧ a.length = a'.length := by
  obtain ⟨N, h1, h2, h3⟩ := line_end (m := sub m r l) r l
  have hsl : (sub m r l).length ≤ m.length := List.length_filter_le ..
  have e : ∀ j, mget (sub m r l) (at_ r l j) = mget m (at_ r l j) := fun j => mget_sub m _ r l rfl rfl
  refine ⟨_, _, _, _, cache_Line_eq 1000 m r l h (N := N) (by omega) (by rw [← e]; exact h2) (fun j hj => by rw [← e]; exact h3 j hj), cache_Line_eq 1000 _ r l (sub_wf h r l) h1 h2 h3, ?_⟩
  simp
/-- A number's rest. -/
theorem rest3 {x : Int} (h : -9223372036854775808 ≤ x ∧ x ≤ 9223372036854775807) : Int.tmod (IntKind.wrap .i64 ((Int.tmod x 3) + 3)) 3 = 0 ∨ Int.tmod (IntKind.wrap .i64 ((Int.tmod x 3) + 3)) 3 = 1 ∨ Int.tmod (IntKind.wrap .i64 ((Int.tmod x 3) + 3)) 3 = 2 := by
  have h1 := Int.tmod_lt_of_pos x (show (0 : Int) < 3 by decide)
  have h2 := Int.lt_tmod_of_pos x (show (0 : Int) < 3 by decide)
  rw [wrapI (by omega), Int.tmod_eq_emod_of_nonneg (by omega)]
  omega
theorem rest2 {x : Int} (h : -9223372036854775808 ≤ x ∧ x ≤ 9223372036854775807) : Int.tmod (IntKind.wrap .i64 ((Int.tmod x 2) + 2)) 2 = 0 ∨ Int.tmod (IntKind.wrap .i64 ((Int.tmod x 2) + 2)) 2 = 1 := by
  have h1 := Int.tmod_lt_of_pos x (show (0 : Int) < 2 by decide)
  have h2 := Int.lt_tmod_of_pos x (show (0 : Int) < 2 by decide)
  rw [wrapI (by omega), Int.tmod_eq_emod_of_nonneg (by omega)]
  omega
theorem owns_get (m : CM) {r l : Int} (hr : r = 0 ∨ r = 1 ∨ r = 2) (hl : l = 0 ∨ l = 1) : getI (owns m) (2 * r + l) = some ⟨1000, sub m r l⟩ := by
  rcases hr with rfl | rfl | rfl <;> rcases hl with rfl | rfl <;> rfl
theorem owns_set {m m' : CM} {r l : Int} (hr : r = 0 ∨ r = 1 ∨ r = 2) (hl : l = 0 ∨ l = 1) (h : ∀ r' l', ¬ (r' = r ∧ l' = l) → sub m' r' l' = sub m r' l') : List.set (owns m) (Int.toNat (2 * r + l)) ⟨1000, sub m' r l⟩ = owns m' := by
  rcases hr with rfl | rfl | rfl <;> rcases hl with rfl | rfl
  all_goals
    unfold owns
    simp (discharger := omega) [h]
theorem told {k : Nat} {m : CM} (h : InA k m) (hk : k ≤ 900) {x : S_law12_Act} {r l : Int} (er : Int.tmod (IntKind.wrap .i64 ((Int.tmod x.At.Request 3) + 3)) 3 = r) (el : Int.tmod (IntKind.wrap .i64 ((Int.tmod x.At.Layer 2) + 2)) 2 = l) (hr : r = 0 ∨ r = 1 ∨ r = 2) (hl : l = 0 ∨ l = 1) (i : Int) (hi : 0 ≤ i ∧ i ≤ 100) :
    law12_CacheApart_k12 i x (owns m) ⟨1000, m⟩ = some (.inl (owns m, i + 1, ⟨1000, m⟩)) := by
  unfold law12_CacheApart_k12
  rw [er, el, wrapI (x := 2 * r) (by omega), wrapI (x := 2 * r + l) (by omega), owns_get m hr hl]
  obtain ⟨a, b, a', b', h1, h2, h3⟩ := line_len h.wf r l
  rw [h1, Option.bind_some, Option.bind_some, h2, Option.bind_some]
  simp only [h3, bne_self_eq_false, cond_false]
  rw [wrapI (by omega)]
theorem step12 (acts : List S_law12_Act) (hw : wfL wf_law12_Act acts) (k : Nat) (hk : k < acts.length) (hk2 : k ≤ 60) {m : CM} (hm : InA k m) :
    law12_CacheApart_b9 acts (owns m) (k : Int) ⟨1000, m⟩ = some (.inr (.ret true)) ∨
    ∃ m', law12_CacheApart_b9 acts (owns m) (k : Int) ⟨1000, m⟩ = some (.inl (owns m', ((k + 1 : Nat) : Int), ⟨1000, m'⟩)) ∧ InA (k + 1) m' := by
  have hk' : (k : Int) < (acts.length : Int) := by omega
  obtain ⟨w1, w2, w3, w4⟩ := hw.2 _ (List.getElem_mem hk)
  obtain ⟨w5, w6, w7⟩ := w2
  have w5 := i64K w5; have w6 := i64K w6; have w7 := i64K w7
  unfold law12_CacheApart_b9
  simp only [hk', decide_true, cond_true, getI_lt hk, Option.bind_some]
  generalize acts[k] = x at w1 w3 w4 w5 w6 w7
  have up : InA (k + 1) m := ⟨hm.wf.up (by omega) (by omega), hm.req, hm.lay⟩
  have step : (x.K.length ≤ 100 ∧ x.V.length ≤ 100) → ∃ m', law12_CacheApart_k11 (owns m) (k : Int) ⟨1000, m⟩ x false = some (.inl (owns m', ((k + 1 : Nat) : Int), ⟨1000, m'⟩)) ∧ InA (k + 1) m' := by
    rintro ⟨hK, hV⟩
    have hr := rest3 w5
    have hl := rest2 w6
    unfold law12_CacheApart_k11 law12_CacheApart_k13
    generalize er : Int.tmod (IntKind.wrap .i64 ((Int.tmod x.At.Request 3) + 3)) 3 = r at *
    generalize el : Int.tmod (IntKind.wrap .i64 ((Int.tmod x.At.Layer 2) + 2)) 2 = l at *
    have e1 : IntKind.wrap .i64 (2 * r) = 2 * r := wrapI (by omega)
    have e2 : IntKind.wrap .i64 (2 * r + l) = 2 * r + l := wrapI (by omega)
    have e3 : IntKind.wrap .i64 (2 * r + 1) = 2 * r + 1 := wrapI (by omega)
    simp only [cond_false, law12_spot, Option.bind_some, e1, e2, e3, owns_get m hr hl]
    by_cases c1 : x.Kind = 1
    · have ek : (x.Kind == 1) = true := by simpa using c1
      rw [ek, cond_true]
      have g0 : getI (owns m) (2 * r) = some ⟨1000, sub m r 0⟩ := by have := owns_get m hr (.inl rfl); simpa using this
      have g1 : getI (owns m) (2 * r + 1) = some ⟨1000, sub m r 1⟩ := owns_get m hr (.inr rfl)
      have g2 : getI (List.set (owns m) (Int.toNat (2 * r)) ⟨1000, []⟩) (2 * r + 1) = some ⟨1000, sub m r 1⟩ := by
        rcases hr with rfl | rfl | rfl <;> rfl
      rw [g0, Option.bind_some, g1, Option.bind_some, cache_Drop_eq 1000 _ r (sub_wf hm.wf r 0), Option.bind_some]
      simp only [dropM_sub]
      rw [g2, Option.bind_some, cache_Drop_eq 1000 _ r (sub_wf hm.wf r 1), Option.bind_some]
      simp only [dropM_sub]
      rw [cache_Drop_eq 1000 m r hm.wf, Option.bind_some]
      have hc := drop_count m r hm.lay
      have hlen := hm.wf.len
      have e4 : IntKind.wrap .i64 (((sub m r 0).length : Int) - (([] : CM).length : Int) + (((sub m r 1).length : Int) - (([] : CM).length : Int))) = (m.length : Int) - ((dropM m r).length : Int) := by
        rw [wrapI (by simp; omega)]; simp; omega
      rw [e4]
      simp only [bne_self_eq_false, cond_false]
      have hset : List.set (List.set (owns m) (Int.toNat (2 * r)) ⟨1000, []⟩) (Int.toNat (2 * r + 1)) ⟨1000, []⟩ = owns (dropM m r) := by
        have s0 := fun l => sub_drop_same m r l
        rcases hr with rfl | rfl | rfl <;> unfold owns <;> simp [s0, sub_drop_other]
      rw [hset]
      have hin : InA (k + 1) (dropM m r) := ⟨up.wf.drop r, fun p hp => hm.req p (List.mem_filter.1 hp).1, fun p hp => hm.lay p (List.mem_filter.1 hp).1⟩
      exact ⟨dropM m r, told hin (by omega) er el hr hl (k : Int) (by omega), hin⟩
    · have ek : (x.Kind == 1) = false := by simpa using c1
      rw [ek, cond_false]
      obtain ⟨p1, p2⟩ := putE_sub hm.wf (by omega) (⟨r, l, x.At.Place⟩ : S_api_Spot) x.K x.V r l rfl rfl
      rw [cache_Put_eq 1000 m (⟨r, l, x.At.Place⟩ : S_api_Spot) _ _ hm.wf w7.2 hK hV, Option.bind_some, cache_Put_eq 1000 _ (⟨r, l, x.At.Place⟩ : S_api_Spot) _ _ (sub_wf hm.wf r l) w7.2 hK hV, Option.bind_some, p1]
      simp only [bne_self_eq_false, cond_false]
      rw [owns_set hr hl p2]
      have hin := putE_in hm (by omega) (a := ⟨r, l, x.At.Place⟩) hr hl w7.2 hK hV
      exact ⟨_, told hin (by omega) er el hr hl (k : Int) (by omega), hin⟩
  by_cases h1 : (x.K.length : Int) > 100
  · left
    simp [h1, law12_CacheApart_k11]
  · by_cases h2 : (x.V.length : Int) > 100
    · left
      simp [h1, h2, law12_CacheApart_k11]
    · right
      simp only [h1, h2, decide_false, cond_false]
      exact step ⟨by omega, by omega⟩
theorem make_own : loopO (fun s => law12_CacheApart_b14 s.1 s.2) (([] : List S_cache_Store), 0) = some (.brk (owns [])) := by
  have hn : cache_New 1000 = some (some ⟨1000, []⟩, 0) := by rw [cache_New_eq]; rfl
  have st : ∀ (l : List S_cache_Store) (i : Int), 0 ≤ i → i < 6 → l.length ≤ 6 → law12_CacheApart_b14 l i = some (.inl (l ++ [⟨1000, []⟩], i + 1)) := fun l i h0 h1 h2 => by
    unfold law12_CacheApart_b14 law12_CacheApart_k17
    rw [hn]
    simp only [h1, decide_true, cond_true, Option.bind_some, Option.elim_some, bne_self_eq_false, cond_false]
    rw [app_of (by unfold lim; simp; omega), Option.bind_some, wrapI (by omega)]
  rw [loopO_next (st _ 0 (by omega) (by omega) (by simp)), loopO_next (st _ (0 + 1) (by omega) (by omega) (by simp)), loopO_next (st _ (0 + 1 + 1) (by omega) (by omega) (by simp)), loopO_next (st _ (0 + 1 + 1 + 1) (by omega) (by omega) (by simp)), loopO_next (st _ (0 + 1 + 1 + 1 + 1) (by omega) (by omega) (by simp)), loopO_next (st _ (0 + 1 + 1 + 1 + 1 + 1) (by omega) (by omega) (by simp))]
  exact loopO_end rfl
theorem sum_own {k : Nat} {m : CM} (h : InA k m) (hk : k ≤ 900) : loopO (fun s => law12_CacheApart_b7 s.1 s.2.1 s.2.2) (owns m, 0, 0) = some (m.length : Int) := by
  have hc := all_count m h.req h.lay
  have hlen := h.wf.len
  have st : ∀ (i : Nat) (v : Int) (y : S_cache_Store), i < 6 → getI (owns m) (i : Int) = some y → 0 ≤ v → v ≤ 100000 → y.m.length ≤ 100000 → law12_CacheApart_b7 (owns m) v (i : Int) = some (.inl (owns m, v + (y.m.length : Int), ((i + 1 : Nat) : Int))) := fun i v y h0 h1 h2 h3 h4 => by
    unfold law12_CacheApart_b7 cache_Store_Len_vm
    have : (i : Int) < 6 := by omega
    simp only [this, decide_true, cond_true, h1, Option.bind_some]
    rw [wrapI (by omega), wrapI (by omega)]
    rfl
  have z : (0 : Int) = ((0 : Nat) : Int) := rfl
  rw [show ((owns m, 0, 0) : List S_cache_Store × Int × Int) = (owns m, 0, ((0 : Nat) : Int)) from rfl]
  rw [loopO_next (st 0 0 _ (by omega) rfl (by omega) (by omega) (by simp <;> omega)), loopO_next (st 1 _ _ (by omega) rfl (by simp <;> omega) (by simp <;> omega) (by simp <;> omega)), loopO_next (st 2 _ _ (by omega) rfl (by simp <;> omega) (by simp <;> omega) (by simp <;> omega)), loopO_next (st 3 _ _ (by omega) rfl (by simp <;> omega) (by simp <;> omega) (by simp <;> omega)), loopO_next (st 4 _ _ (by omega) rfl (by simp <;> omega) (by simp <;> omega) (by simp <;> omega)), loopO_next (st 5 _ _ (by omega) rfl (by simp <;> omega) (by simp <;> omega) (by simp <;> omega))]
  refine loopO_end ?_
  unfold law12_CacheApart_b7
  simp
  omega
theorem law12_CacheApart_true (acts : List S_law12_Act) (hw : wfL wf_law12_Act acts) : law12_CacheApart acts = some true := by
  unfold law12_CacheApart
  rw [awake12]
  simp only [Option.bind_some, Bool.not_true, cond_false]
  by_cases hn : ((acts.length : Int) > 60)
  · simp only [hn, decide_true, law12_CacheApart_k1, cond_true, awake12, Option.bind_some]
  have hnew : cache_New 1000 = some (some ⟨1000, []⟩, 0) := by rw [cache_New_eq]; rfl
  simp only [hn, decide_false, law12_CacheApart_k1, cond_false, hnew, Option.bind_some, Option.elim_some, law12_CacheApart_k3, bne_self_eq_false, make_own, law12_CacheApart_k4]
  have key := loopO_run (body := fun t => law12_CacheApart_b9 acts t.1 t.2.1 t.2.2) (fun t => ∃ (k : Nat) (m : CM), t = (owns m, (k : Int), ⟨1000, m⟩) ∧ k ≤ acts.length ∧ InA k m) (fun t => acts.length - t.2.1.toNat)
    (fun r => r = .ret true ∨ ∃ (m : CM), r = .brk (owns m, ⟨1000, m⟩) ∧ InA 60 m) ?_ (owns [], 0, ⟨1000, []⟩) ⟨0, [], rfl, Nat.zero_le _, ⟨WfC.nil (by omega), fun p hp => (by cases hp), fun p hp => (by cases hp)⟩⟩
  · obtain ⟨x, hx, hx2⟩ := key
    rw [hx]
    rcases hx2 with rfl | ⟨m, rfl, hin⟩
    · rfl
    · simp only [Option.bind_some, law12_CacheApart_k5, sum_own hin (by omega), law12_CacheApart_k6, cache_Store_Len_vm, beq_self_eq_true]
  · rintro t ⟨k, m, rfl, hk, hin⟩
    by_cases hkn : k = acts.length
    · right
      exact ⟨.brk (owns m, ⟨1000, m⟩), by simp [law12_CacheApart_b9, hkn], .inr ⟨m, rfl, ⟨hin.wf.up (by omega) (by omega), hin.req, hin.lay⟩⟩⟩
    · have hlt : k < acts.length := by omega
      rcases step12 acts hw k hlt (by omega) hin with h6 | ⟨m', h6, h7⟩
      · exact .inr ⟨_, h6, .inl rfl⟩
      · exact .inl ⟨_, h6, ⟨k + 1, m', rfl, by omega, h7⟩, by simp; omega⟩
end Go.Pel

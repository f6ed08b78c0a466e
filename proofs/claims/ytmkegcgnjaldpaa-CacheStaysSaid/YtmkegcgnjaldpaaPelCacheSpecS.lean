/- What a store's functions come to, as plain functions. -/
import Derived.Test.YtmkegcgnjaldpaaPelCsX0
import Derived.Test.YtmkegcgnjaldpaaPelCsA
import Derived.Test.YtmkegcgnjaldpaaPelPure
set_option linter.unusedVariables false
namespace Go.Pel
open Go.RowKit Go.Proofs

abbrev CM := List (S_api_Spot × S_cache_rows)
def rows0 : S_cache_rows := ⟨[], []⟩

/-! ### Lists of bytes -/
theorem slices_Equal8 (a b : List Int) (h : a.length ≤ 4611686018427387904) : slices_Equal_int8_int8 a b = some (decide (a = b)) := by
  unfold slices_Equal_int8_int8 slices_Equal_int8_int8_k1
  by_cases hl : a.length = b.length
  · have : ((a.length : Int) != (b.length : Int)) = false := by simp [hl]
    rw [this, cond_false, eq_loop (.ret false) (.brk ()) a b hl h (fun k => rfl)]
    by_cases hab : a = b
    · simp [hab]
    · simp [hab]
  · have : ((a.length : Int) != (b.length : Int)) = true := by simp; omega
    have hne : a ≠ b := fun e => hl (by rw [e])
    rw [this, cond_true]; simp [hne]
theorem clone8 (a : List Int) (h : a.length ≤ 100) : slices_Clone_int8_int8 a = some a := by
  unfold slices_Clone_int8_int8; rw [app_nil (by unfold lim; omega)]; rfl
theorem contains_eq (l : List Int) (x : Int) (h : l.length ≤ 4611686018427387904) : slices_Contains_int_int l x = some (l.any fun y => decide (x = y)) := by
  unfold slices_Contains_int_int slices_Index_int_int slices_Index_int_int_k1
  rw [index_loop (fun i => .ret (i : Int)) (.brk ()) l (fun y => x == y) h (fun k => rfl)]
  cases hf : l.findIdx? (fun y => x == y) with
  | none =>
    have : (l.any fun y => decide (x = y)) = false := by
      rw [List.any_eq_false]
      intro y hy
      have := List.findIdx?_eq_none_iff.1 hf y hy
      simpa using this
    rw [this]; rfl
  | some i =>
    have : (l.any fun y => decide (x = y)) = true := by
      rw [List.any_eq_true]
      obtain ⟨hi, hp, _⟩ := List.findIdx?_eq_some_iff_getElem.1 hf
      exact ⟨l[i], List.getElem_mem hi, by simpa using hp⟩
    rw [this]
    simp

/-! ### Bounds -/
structure WfE (p : S_api_Spot × S_cache_rows) : Prop where
  req : 0 ≤ p.1.Request ∧ p.1.Request ≤ 9223372036854775807
  lay : 0 ≤ p.1.Layer ∧ p.1.Layer ≤ 9223372036854775807
  place : 0 ≤ p.1.Place ∧ p.1.Place ≤ 9223372036854775807
  len : p.2.k_.length ≤ 100 ∧ p.2.v_.length ≤ 100
structure WfC (n : Nat) (m : CM) : Prop where
  len : m.length ≤ n
  small : n ≤ 1000000
  keys : (m.map (·.1)).Nodup
  ent : ∀ p ∈ m, WfE p
theorem mget_mem {K V : Type} [DecidableEq K] {m : List (K × V)} {k : K} {v : V} (h : mget m k = some v) : (k, v) ∈ m := by
  unfold mget at h
  obtain ⟨p, hp, rfl⟩ := Option.map_eq_some_iff.1 h
  have h1 := List.find?_some hp
  have h2 := List.mem_of_find?_eq_some hp
  have : p.1 = k := by simpa using h1
  rw [← this]; exact h2
theorem WfC.look {n : Nat} {m : CM} (h : WfC n m) (a : S_api_Spot) : ((mget m a).getD rows0).k_.length ≤ 100 ∧ ((mget m a).getD rows0).v_.length ≤ 100 := by
  cases hg : mget m a with
  | none => exact ⟨Nat.zero_le _, Nat.zero_le _⟩
  | some v => exact (h.ent _ (mget_mem hg)).len

/-! ### Get, Put, Drop -/
def prev (a : S_api_Spot) : S_api_Spot := ⟨a.Request, a.Layer, a.Place - 1⟩
def aheadB (m : CM) (a : S_api_Spot) : Bool := decide (a.Place = 0) || (mget m (prev a)).isSome
def badS (a : S_api_Spot) : Bool := decide (a.Request < 0 ∨ a.Layer < 0 ∨ a.Place < 0)
def putE (room : Int) (m : CM) (a : S_api_Spot) (k v : List Int) : Int × CM :=
  if badS a then (2, m) else if k.length ≠ v.length then (30, m) else if aheadB m a = false then (120, m) else
    match mget m a with
    | some old => if old.k_ = k ∧ old.v_ = v then (0, m) else (2, m)
    | none => if (m.length : Int) ≥ room then (80, m) else (0, mput m a ⟨k, v⟩)
theorem ahead_eq (room : Int) (m : CM) (a : S_api_Spot) (ha : 0 ≤ a.Place ∧ a.Place ≤ 9223372036854775807) : cache_Store_ahead_vm ⟨room, m⟩ a = some (aheadB m a) := by
  unfold cache_Store_ahead_vm aheadB prev
  by_cases h : a.Place = 0
  · simp [h]
  · have h' : (a.Place == 0) = false := by simpa using h
    rw [h', cond_false, wrapI (by omega)]
    simp [h]
theorem cache_Put_eq {n : Nat} (room : Int) (m : CM) (a : S_api_Spot) (k v : List Int) (hm : WfC n m) (ha : a.Place ≤ 9223372036854775807) (hk : k.length ≤ 100) (hv : v.length ≤ 100) :
    cache_Store_Put_vm ⟨room, m⟩ a k v = some ((putE room m a k v).1, ⟨room, (putE room m a k v).2⟩) := by
  unfold cache_Store_Put_vm
  simp only [Option.bind_some]
  have hr : Option.getD (mget m a) (⟨([] : List Int), ([] : List Int)⟩ : S_cache_rows) = (mget m a).getD rows0 := rfl
  rw [hr]
  have hlook := hm.look a
  cases hb : badS a with
  | true =>
    have hb' := of_decide_eq_true hb
    have e : putE room m a k v = (2, m) := by unfold putE; rw [hb]; rfl
    rw [e]
    unfold cache_Store_Put_vm_k1
    by_cases h1 : a.Request < 0
    · simp [h1]
    · by_cases h2 : a.Layer < 0
      · simp [h1, h2]
      · have h3 : a.Place < 0 := by omega
        simp [h1, h2, h3]
  | false =>
    have hb' := of_decide_eq_false hb
    have h1 : ¬ a.Request < 0 := fun h => hb' (.inl h)
    have h2 : ¬ a.Layer < 0 := fun h => hb' (.inr (.inl h))
    have h3 : ¬ a.Place < 0 := fun h => hb' (.inr (.inr h))
    simp only [h1, h2, h3, decide_false, cond_false]
    unfold putE
    rw [hb]
    simp only [Bool.false_eq_true, if_false]
    unfold cache_Store_Put_vm_k1
    by_cases h4 : k.length = v.length
    · have e4 : ((k.length : Int) != (v.length : Int)) = false := by simp [h4]
      simp only [e4, cond_false, ahead_eq room m a ⟨by omega, ha⟩, Option.bind_some]
      rw [if_neg (by simpa using h4)]
      cases h5 : aheadB m a with
      | false => simp
      | true =>
        simp only [Bool.not_true, cond_false, Bool.true_eq_false, if_false]
        cases hg : mget m a with
        | none =>
          simp only [Option.isSome_none, cond_false]
          unfold cache_Store_Put_vm_k2
          simp only [hg, Option.isSome_none, cond_false]
          by_cases h6 : (m.length : Int) ≥ room
          · simp [h6]
          · simp [h6, clone8 k hk, clone8 v hv]
        | some old =>
          rw [hg] at hlook
          simp only [Option.isSome_some, cond_true, Option.getD_some]
          rw [slices_Equal8 _ _ (by have := hlook.1; simp at this; omega), slices_Equal8 _ _ (by have := hlook.2; simp at this; omega)]
          unfold cache_Store_Put_vm_k2
          by_cases h7 : old.k_ = k <;> by_cases h8 : old.v_ = v <;> simp [h7, h8, hg]
    · have e4 : ((k.length : Int) != (v.length : Int)) = true := by simp; omega
      rw [if_pos (by simpa using h4)]
      simp [e4]
def dropM (m : CM) (q : Int) : CM := m.filter fun p => !decide (p.1.Request = q)
theorem cache_Drop_eq {n : Nat} (room : Int) (m : CM) (q : Int) (hm : WfC n m) : cache_Store_Drop_vm ⟨room, m⟩ [q] = some ((m.length : Int) - ((dropM m q).length : Int), ⟨room, dropM m q⟩) := by
  unfold cache_Store_Drop_vm maps_DeleteFunc_map_api_Spot_cache_rows_api_Spot_cache_rows_m_Fcache_Store_Drop_1_p
  have e : mfilterO (fun (k : S_api_Spot) (v : S_cache_rows) => maps_DeleteFunc_map_api_Spot_cache_rows_api_Spot_cache_rows_m_Fcache_Store_Drop_1_p_b1 [q] (k, v)) m = some (dropM m q) := by
    rw [mfilterO_of (g := fun k _ => decide (k.Request = q))]
    · rfl
    · intro p _
      unfold maps_DeleteFunc_map_api_Spot_cache_rows_api_Spot_cache_rows_m_Fcache_Store_Drop_1_p_b1 cache_Store_Drop_1_p
      rw [contains_eq _ _ (by simp)]
      by_cases h : p.1.Request = q <;> simp [h]
  have hl : (dropM m q).length ≤ m.length := List.length_filter_le ..
  have h1 := hm.len; have h2 := hm.small
  rw [e]
  simp only [Option.bind_some]
  rw [wrapI (by omega)]
theorem cache_Get_eq {n : Nat} (room : Int) (m : CM) (a : S_api_Spot) (hm : WfC n m) : cache_Store_Get_vm ⟨room, m⟩ a = some (((mget m a).getD rows0).k_, ((mget m a).getD rows0).v_, (mget m a).isSome) := by
  unfold cache_Store_Get_vm
  have h := hm.look a
  have hr : Option.getD (mget m a) (⟨([] : List Int), ([] : List Int)⟩ : S_cache_rows) = (mget m a).getD rows0 := rfl
  simp only [Option.bind_some, hr, clone8 _ h.1, clone8 _ h.2]

/-! ### What is laid keeps the bounds -/
theorem mput_length {K V : Type} [DecidableEq K] (m : List (K × V)) (k : K) (v : V) : (mput m k v).length ≤ m.length + 1 := by
  unfold mput; split <;> simp
theorem mput_new {K V : Type} [DecidableEq K] {m : List (K × V)} {k : K} (v : V) (h : mget m k = none) : mput m k v = m ++ [(k, v)] := by
  unfold mput; rw [mget_any, h]; rfl
theorem WfC.up {n n' : Nat} {m : CM} (h : WfC n m) (hn : n ≤ n') (hs : n' ≤ 1000000) : WfC n' m := ⟨Nat.le_trans h.len hn, hs, h.keys, h.ent⟩
theorem mget_none {K V : Type} [DecidableEq K] {m : List (K × V)} {k : K} (h : mget m k = none) : k ∉ m.map (·.1) := by
  unfold mget at h
  rw [Option.map_eq_none_iff, List.find?_eq_none] at h
  intro hk
  obtain ⟨p, hp, rfl⟩ := List.mem_map.1 hk
  exact h p hp (by simp)
theorem WfC.put {n : Nat} {m : CM} (h : WfC n m) {room : Int} {a : S_api_Spot} {k v : List Int} (ha : a.Request ≤ 9223372036854775807 ∧ a.Layer ≤ 9223372036854775807 ∧ a.Place ≤ 9223372036854775807) (hk : k.length ≤ 100) (hv : v.length ≤ 100) (hn : n + 1 ≤ 1000000) : WfC (n + 1) (putE room m a k v).2 := by
  have hup : WfC (n + 1) m := h.up (by omega) hn
  unfold putE
  cases hb : badS a with
  | true => exact hup
  | false =>
    have hb' := of_decide_eq_false hb
    simp only [Bool.false_eq_true, if_false]
    split
    · exact hup
    split
    · exact hup
    split
    · split <;> exact hup
    · rename_i hg
      split
      · exact hup
      · show WfC (n + 1) (mput m a ⟨k, v⟩)
        rw [mput_new _ hg]
        refine ⟨by have := h.len; simp; omega, hn, ?_, fun p hp => ?_⟩
        · rw [List.map_append, List.nodup_append]
          refine ⟨h.keys, by simp, ?_⟩
          intro x hx y hy e
          simp at hy
          subst hy; subst e
          exact mget_none hg hx
        · rcases List.mem_append.1 hp with hp | hp
          · exact h.ent p hp
          · simp at hp; subst hp
            exact ⟨⟨by dsimp; omega, ha.1⟩, ⟨by dsimp; omega, ha.2.1⟩, ⟨by dsimp; omega, ha.2.2⟩, hk, hv⟩
theorem WfC.drop {n : Nat} {m : CM} (h : WfC n m) (q : Int) : WfC n (dropM m q) :=
  ⟨Nat.le_trans (List.length_filter_le ..) h.len, h.small, h.keys.sublist (List.filter_sublist.map _), fun p hp => h.ent p (List.mem_filter.1 hp).1⟩
theorem WfC.nil {n : Nat} (hs : n ≤ 1000000) : WfC n [] := ⟨Nat.zero_le _, hs, List.nodup_nil, fun p hp => by cases hp⟩

/-! ### Line -/
theorem nodup_le {α : Type} [DecidableEq α] : ∀ (l l' : List α), l.Nodup → (∀ x ∈ l, x ∈ l') → l.length ≤ l'.length
  | [], _, _, _ => Nat.zero_le _
  | a :: l, l', h, hs => by
    have h1 := List.nodup_cons.1 h
    have ha : a ∈ l' := hs a (List.mem_cons_self ..)
    have h2 := nodup_le l (l'.erase a) h1.2 (fun x hx => (List.mem_erase_of_ne (fun (e : x = a) => h1.1 (by rw [← e]; exact hx))).2 (hs x (List.mem_cons_of_mem _ hx)))
    rw [List.length_erase_of_mem ha] at h2
    have : 0 < l'.length := List.length_pos_of_mem ha
    simp; omega
def at_ (q l : Int) (j : Nat) : S_api_Spot := ⟨q, l, (j : Int)⟩
/-- A line ends: at the first place that is not there. -/
theorem line_end {m : CM} (q l : Int) : ∃ N, N ≤ m.length ∧ mget m (at_ q l N) = none ∧ ∀ j, j < N → (mget m (at_ q l j)).isSome = true := by
  have key : ∀ k, k ≤ m.length + 1 → (∀ j, j < k → (mget m (at_ q l j)).isSome = true) ∨ ∃ N, N < k ∧ mget m (at_ q l N) = none ∧ ∀ j, j < N → (mget m (at_ q l j)).isSome = true := by
    intro k
    induction k with
    | zero => intro _; exact .inl fun j h => by omega
    | succ k ih =>
      intro hk
      rcases ih (by omega) with h | ⟨N, h1, h2⟩
      · cases hg : mget m (at_ q l k) with
        | none => exact .inr ⟨k, by omega, hg, h⟩
        | some v =>
          refine .inl fun j hj => ?_
          by_cases e : j = k
          · subst e; rw [hg]; rfl
          · exact h j (by omega)
      · exact .inr ⟨N, by omega, h2⟩
  rcases key (m.length + 1) (Nat.le_refl _) with h | ⟨N, h1, h2, h3⟩
  · exfalso
    have hnd : ((List.range (m.length + 1)).map (at_ q l)).Nodup := by
      refine List.pairwise_map.2 ((List.nodup_range).imp fun {a b} hab e => hab ?_)
      unfold at_ at e
      injection e with _ _ e
      exact Int.ofNat.inj e
    have := nodup_le _ (m.map (·.1)) hnd (fun x hx => by
      obtain ⟨j, hj, rfl⟩ := List.mem_map.1 hx
      obtain ⟨v, hv⟩ := Option.isSome_iff_exists.1 (h j (List.mem_range.1 hj))
      exact List.mem_map.2 ⟨_, mget_mem hv, rfl⟩)
    simp at this
    omega
  · exact ⟨N, by omega, h2, h3⟩
def lineK (m : CM) (q l : Int) (N : Nat) : List (List Int) := (List.range N).map fun j => ((mget m (at_ q l j)).getD rows0).k_
def lineV (m : CM) (q l : Int) (N : Nat) : List (List Int) := (List.range N).map fun j => ((mget m (at_ q l j)).getD rows0).v_
theorem lineK_succ (m : CM) (q l : Int) (N : Nat) : lineK m q l (N + 1) = lineK m q l N ++ [((mget m (at_ q l N)).getD rows0).k_] := by
  unfold lineK; rw [List.range_succ]; simp
theorem lineV_succ (m : CM) (q l : Int) (N : Nat) : lineV m q l (N + 1) = lineV m q l N ++ [((mget m (at_ q l N)).getD rows0).v_] := by
  unfold lineV; rw [List.range_succ]; simp
@[simp] theorem lineK_length (m : CM) (q l : Int) (N : Nat) : (lineK m q l N).length = N := by simp [lineK]
@[simp] theorem lineV_length (m : CM) (q l : Int) (N : Nat) : (lineV m q l N).length = N := by simp [lineV]
theorem cache_Line_eq {n : Nat} (room : Int) (m : CM) (q l : Int) (hm : WfC n m) {N : Nat} (hN : N ≤ m.length) (h0 : mget m (at_ q l N) = none) (h1 : ∀ j, j < N → (mget m (at_ q l j)).isSome = true) :
    cache_Store_Line_vm ⟨room, m⟩ q l = some (lineK m q l N, lineV m q l N) := by
  have hlen := hm.len; have hsm := hm.small
  unfold cache_Store_Line_vm
  have key := loopO_run (body := fun s => cache_Store_Line_vm_b1 ⟨room, m⟩ q l s.1 s.2.1 s.2.2) (fun s => ∃ k : Nat, s = (lineK m q l k, lineV m q l k, (k : Int)) ∧ k ≤ N) (fun s => N - s.2.2.toNat) (fun r => r = .ret (lineK m q l N, lineV m q l N)) ?_ (([] : List (List Int)), ([] : List (List Int)), 0) ⟨0, rfl, Nat.zero_le _⟩
  · obtain ⟨x, hx, rfl⟩ := key
    rw [hx]; rfl
  · rintro s ⟨k, rfl, hk⟩
    have e : (⟨q, l, (k : Int)⟩ : S_api_Spot) = at_ q l k := rfl
    simp only [cache_Store_Line_vm_b1, e, cache_Get_eq room m _ hm, Option.bind_some]
    by_cases hkN : k = N
    · subst hkN
      right
      rw [h0]
      exact ⟨_, rfl, rfl⟩
    · left
      have hlt : k < N := by omega
      rw [h1 k hlt]
      simp only [Bool.not_true, cond_false]
      rw [app_of (by simp; unfold lim; omega), Option.bind_some, app_of (by simp; unfold lim; omega), Option.bind_some, wrapI (by omega), ← lineK_succ, ← lineV_succ]
      exact ⟨_, rfl, ⟨k + 1, by simp, hlt⟩, by simp; omega⟩

/-! ### New, awake -/
theorem cache_New_eq (room : Int) : cache_New room = some (if room < 0 ∨ room > 1048576 then (none, 2) else (some ⟨room, []⟩, 0)) := by
  unfold cache_New cache_New_k1
  by_cases h1 : room < 0
  · simp [h1]
  · by_cases h2 : room > 1048576
    · simp [h1, h2]
    · simp [h1, h2]
theorem awake12 : law12_awake = some true := by
  unfold law12_awake
  rw [cache_New_eq]
  have h0 : WfC 0 [] := WfC.nil (by omega)
  have e1 : putE 2 [] ⟨7, 0, 1⟩ [1] [1] = (120, []) := rfl
  have e2 : putE 2 [] ⟨7, 0, 0⟩ [1] [1] = (0, [(⟨7, 0, 0⟩, ⟨[1], [1]⟩)]) := rfl
  have e3 : putE 2 [(⟨7, 0, 0⟩, ⟨[1], [1]⟩)] ⟨7, 0, 1⟩ [1] [1] = (0, [(⟨7, 0, 0⟩, ⟨[1], [1]⟩), (⟨7, 0, 1⟩, ⟨[1], [1]⟩)]) := rfl
  have e4 : putE 2 [(⟨7, 0, 0⟩, ⟨[1], [1]⟩), (⟨7, 0, 1⟩, ⟨[1], [1]⟩)] ⟨7, 1, 0⟩ [1] [1] = (80, [(⟨7, 0, 0⟩, ⟨[1], [1]⟩), (⟨7, 0, 1⟩, ⟨[1], [1]⟩)]) := rfl
  have e5 : putE 2 [(⟨7, 0, 0⟩, ⟨[1], [1]⟩), (⟨7, 0, 1⟩, ⟨[1], [1]⟩)] ⟨7, 0, 0⟩ [1] [1] = (0, [(⟨7, 0, 0⟩, ⟨[1], [1]⟩), (⟨7, 0, 1⟩, ⟨[1], [1]⟩)]) := rfl
  have e6 : putE 2 [(⟨7, 0, 0⟩, ⟨[1], [1]⟩), (⟨7, 0, 1⟩, ⟨[1], [1]⟩)] ⟨7, 0, 0⟩ [1] [2] = (2, [(⟨7, 0, 0⟩, ⟨[1], [1]⟩), (⟨7, 0, 1⟩, ⟨[1], [1]⟩)]) := rfl
  have h2 : WfC 1 [(⟨7, 0, 0⟩, ⟨[1], [1]⟩)] := by
    have := h0.put (room := 2) (a := ⟨7, 0, 0⟩) (k := [1]) (v := [1]) ⟨by decide, by decide, by decide⟩ (by simp) (by simp) (by omega)
    rw [e2] at this; exact this
  have h3 : WfC 2 [(⟨7, 0, 0⟩, ⟨[1], [1]⟩), (⟨7, 0, 1⟩, ⟨[1], [1]⟩)] := by
    have := h2.put (room := 2) (a := ⟨7, 0, 1⟩) (k := [1]) (v := [1]) ⟨by decide, by decide, by decide⟩ (by simp) (by simp) (by omega)
    rw [e3] at this; exact this
  simp only [law12_spot, law12_awake_k2, law12_awake_k3, Option.bind_some, show ¬ ((2 : Int) < 0 ∨ (2 : Int) > 1048576) by omega, if_false, Option.elim_some, bne_self_eq_false, cond_false]
  rw [cache_Put_eq 2 [] _ _ _ h0 (by decide) (by simp) (by simp), e1]
  simp only [Option.bind_some]
  rw [cache_Put_eq 2 [] _ _ _ h0 (by decide) (by simp) (by simp), e2]
  simp only [Option.bind_some]
  rw [cache_Put_eq 2 _ _ _ _ h2 (by decide) (by simp) (by simp), e3]
  simp only [Option.bind_some]
  rw [cache_Put_eq 2 _ _ _ _ h3 (by decide) (by simp) (by simp), e4]
  simp only [Option.bind_some]
  rw [cache_Put_eq 2 _ _ _ _ h3 (by decide) (by simp) (by simp), e5]
  simp only [Option.bind_some]
  rw [cache_Put_eq 2 _ _ _ _ h3 (by decide) (by simp) (by simp), e6]
  simp only [Option.bind_some, beq_self_eq_true, cond_true]
  rw [cache_Drop_eq 2 _ _ h3]
  rfl
end Go.Pel

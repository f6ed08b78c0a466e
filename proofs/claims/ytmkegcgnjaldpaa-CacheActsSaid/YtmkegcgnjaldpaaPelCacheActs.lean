/- CacheActs: a store answers as the document's does. -/
import Derived.Test.YtmkegcgnjaldpaaPelCacheSpec
set_option linter.unusedVariables false
namespace Go.Pel
open Go.RowKit Go.Proofs

def absM (L : List S_ref12_Row) : CM := L.map fun x => (x.At, ⟨x.K, x.V⟩)
@[simp] theorem absM_length (L : List S_ref12_Row) : (absM L).length = L.length := by simp [absM]
theorem eq3 (a b : S_api_Spot) : (([a.Request, a.Layer, a.Place] : List Int) == [b.Request, b.Layer, b.Place]) = decide (a = b) := by
  cases a; cases b
  rw [Bool.eq_iff_iff]
  simp
theorem mget_abs (L : List S_ref12_Row) (a : S_api_Spot) : mget (absM L) a = (L.find? fun x => decide (x.At = a)).map fun x => ⟨x.K, x.V⟩ := by
  induction L with
  | nil => rfl
  | cons x L ih =>
    show mget ((x.At, _) :: absM L) a = _
    rw [mget_cons, List.find?_cons]
    by_cases h : x.At = a
    · simp [h]
    · simp [h, ih]
theorem find_eq (room : Int) (L : List S_ref12_Row) (a : S_api_Spot) (h : L.length ≤ 1000000) : ref12_Store_Find_vo ⟨room, L⟩ a = some (match L.findIdx? (fun x => decide (x.At = a)) with | some i => (i : Int) | none => -1) := by
  unfold ref12_Store_Find_vo ref12_Store_Find_vo_k1
  rw [index_loop (fun i => .ret (i : Int)) (.brk ()) L (fun x => decide (x.At = a)) (by omega) (fun k => by
    show ref12_Store_Find_vo_b2 ⟨room, L⟩ a k = _
    unfold ref12_Store_Find_vo_b2
    simp only [eq3])]
  cases L.findIdx? (fun x => decide (x.At = a)) <;> rfl
/-- A look at a spot, on both sides. -/
theorem look12 (L : List S_ref12_Row) (a : S_api_Spot) : (∃ (i : Nat) (h : i < L.length), L.findIdx? (fun x => decide (x.At = a)) = some i ∧ mget (absM L) a = some ⟨L[i].K, L[i].V⟩) ∨ (L.findIdx? (fun x => decide (x.At = a)) = none ∧ mget (absM L) a = none) := by
  rw [mget_abs]
  induction L with
  | nil => exact .inr ⟨rfl, rfl⟩
  | cons x L ih =>
    by_cases h : x.At = a
    · exact .inl ⟨0, by simp, by simp [List.findIdx?_cons, h], by simp [List.find?_cons, h]⟩
    · rcases ih with ⟨i, hi, h1, h2⟩ | ⟨h1, h2⟩
      · refine .inl ⟨i + 1, by simp; omega, ?_, ?_⟩
        · rw [List.findIdx?_cons, h1]; simp [h]
        · rw [List.find?_cons]; simp only [h, decide_false]; rw [h2]; rfl
      · refine .inr ⟨?_, ?_⟩
        · rw [List.findIdx?_cons, h1]; simp [h]
        · rw [List.find?_cons]; simp only [h, decide_false]; exact h2
theorem row_len {n : Nat} {L : List S_ref12_Row} (h : WfC n (absM L)) {i : Nat} (hi : i < L.length) : L[i].K.length ≤ 100 ∧ L[i].V.length ≤ 100 := (h.ent (L[i].At, ⟨L[i].K, L[i].V⟩) (List.mem_map.2 ⟨L[i], List.getElem_mem hi, rfl⟩)).len
theorem ref12_Put_eq {n : Nat} (room : Int) (L : List S_ref12_Row) (a : S_api_Spot) (k v : List Int) (hm : WfC n (absM L)) (ha : a.Place ≤ 9223372036854775807) (hk : k.length ≤ 100) (hv : v.length ≤ 100) :
    ∃ L', ref12_Store_Put_vo ⟨room, L⟩ a k v = some ((putE room (absM L) a k v).1, ⟨room, L'⟩) ∧ absM L' = (putE room (absM L) a k v).2 := by
  have hlen : L.length ≤ 1000000 := by have h1 := hm.len; have h2 := hm.small; simp at h1; omega
  unfold ref12_Store_Put_vo putE
  cases hb : badS a with
  | true =>
    have hb' := of_decide_eq_true hb
    refine ⟨L, ?_, rfl⟩
    unfold ref12_Store_Put_vo_k1
    by_cases h1 : a.Request < 0
    · simp [h1]
    · by_cases h2 : a.Layer < 0
      · simp [h1, h2]
      · have h3 : a.Place < 0 := by omega
        simp [h1, h2, h3]
  | false =>
    have hb' := of_decide_eq_false hb
    have h1 : ¬ a.Request < 0 := fun h => hb' (.inl h)
    have h2 : ¬ a.Layer < 0 := fun h => hb' (.inr (.inl h))
    have h3 : ¬ a.Place < 0 := fun h => hb' (.inr (.inr h))
    simp only [h1, h2, h3, decide_false, cond_false, Bool.false_eq_true, if_false]
    unfold ref12_Store_Put_vo_k1
    simp only [cond_false]
    by_cases h4 : ¬ k.length = v.length
    · have e4 : ((k.length : Int) != (v.length : Int)) = true := by simp; omega
      exact ⟨L, by simp [e4, h4], by simp [h4]⟩
    have h4 : k.length = v.length := Decidable.not_not.1 h4
    have e4 : ((k.length : Int) != (v.length : Int)) = false := by simp [h4]
    simp only [e4, cond_false]
    rw [if_neg (by simpa using h4)]
    have step : ∀ (b : Bool), (b = true ↔ aheadB (absM L) a = false) → ∃ L', ref12_Store_Put_vo_k2 ⟨room, L⟩ a k v b = some ((if aheadB (absM L) a = false then (120, absM L) else
        match mget (absM L) a with
        | some old => if old.k_ = k ∧ old.v_ = v then (0, absM L) else (2, absM L)
        | none => if ((absM L).length : Int) ≥ room then (80, absM L) else (0, mput (absM L) a ⟨k, v⟩) : Int × CM).1, ⟨room, L'⟩) ∧ absM L' = (if aheadB (absM L) a = false then (120, absM L) else
        match mget (absM L) a with
        | some old => if old.k_ = k ∧ old.v_ = v then (0, absM L) else (2, absM L)
        | none => if ((absM L).length : Int) ≥ room then (80, absM L) else (0, mput (absM L) a ⟨k, v⟩) : Int × CM).2 := by
      intro b hbi
      unfold ref12_Store_Put_vo_k2
      cases b with
      | true =>
        have := hbi.1 rfl
        exact ⟨L, by simp [this], by simp [this]⟩
      | false =>
        have hne : ¬ aheadB (absM L) a = false := fun h => by have := hbi.2 h; cases this
        simp only [cond_false, find_eq room L a hlen, Option.bind_some, if_neg hne]
        rcases look12 L a with ⟨i, hi, h5, h6⟩ | ⟨h5, h6⟩
        · have hr := row_len hm hi
          simp only [h5, h6]
          rw [show (decide ((i : Int) ≥ 0)) = true by simp, cond_true, getI_lt hi, Option.bind_some, ref04_Bytes_eq _ _ (by omega), Option.bind_some]
          refine ⟨L, ?_, by split <;> rfl⟩
          unfold ref12_Store_Put_vo_k3
          by_cases h7 : L[i].K = k
          · rw [show decide (L[i].K = k) = true by simp [h7], cond_true, Option.bind_some, ref04_Bytes_eq _ _ (by omega), Option.bind_some]
            by_cases h8 : L[i].V = v <;> simp [h7, h8]
          · simp [h7]
        · simp only [h5, h6]
          rw [show (decide ((-1 : Int) ≥ 0)) = false by simp, cond_false]
          by_cases h7 : (L.length : Int) ≥ room
          · exact ⟨L, by simp [h7], by simp [h7]⟩
          · simp only [absM_length, h7, decide_false, cond_false, if_false]
            rw [app_nil (by unfold lim; omega), Option.bind_some, app_nil (by unfold lim; omega), Option.bind_some, app_of (by unfold lim; simp; omega), Option.bind_some]
            refine ⟨L ++ [⟨a, k, v⟩], rfl, ?_⟩
            rw [mput_new _ h6]
            simp [absM]
    by_cases h8 : a.Place > 0
    · simp only [h8, decide_true, cond_true]
      rw [wrapI (by omega), find_eq room L _ hlen, Option.bind_some]
      refine step _ ?_
      have e : (⟨a.Request, a.Layer, a.Place - 1⟩ : S_api_Spot) = prev a := rfl
      rw [e]
      unfold aheadB
      have h9 : decide (a.Place = 0) = false := by simp; omega
      rw [h9, Bool.false_or]
      rcases look12 L (prev a) with ⟨i, hi, h5, h6⟩ | ⟨h5, h6⟩
      · simp only [h5, h6, Option.isSome_some]
        simp
      · simp only [h5, h6, Option.isSome_none]
        try simp
    · have h9 : a.Place = 0 := by omega
      simp only [h8, decide_false, cond_false]
      refine step _ ?_
      unfold aheadB
      simp [h9]
theorem ref12_Drop_eq {n : Nat} (room : Int) (L : List S_ref12_Row) (q : Int) (hm : WfC n (absM L)) :
    ∃ L', ref12_Store_Drop_vo ⟨room, L⟩ q = some (((absM L).length : Int) - ((dropM (absM L) q).length : Int), ⟨room, L'⟩) ∧ absM L' = dropM (absM L) q := by
  have hlen : L.length ≤ 1000000 := by have h1 := hm.len; have h2 := hm.small; simp at h1; omega
  refine ⟨L.filter fun x => x.At.Request != q, ?_, ?_⟩
  · unfold ref12_Store_Drop_vo
    have hb : ∀ (acc : List S_ref12_Row) (k : Nat), (fun s : List S_ref12_Row × Int × List S_ref12_Row => ref12_Store_Drop_vo_b2 q s.1 s.2.1 s.2.2) (acc, (k : Int), L) = cond (decide ((k : Int) < (L.length : Int))) ((getI L k).bind fun x => cond (x.At.Request != q) ((getI L k).bind fun y => (app acc [y]).bind fun z => some (.inl (z, IntKind.wrap .i64 ((k : Int) + 1), L))) (some (.inl (acc, IntKind.wrap .i64 ((k : Int) + 1), L)))) (some (.inr (acc, L))) := fun acc k => rfl
    rw [filter_loop3 L (fun x => x.At.Request != q) (by omega) hb]
    have e : dropM (absM L) q = absM (L.filter fun x => x.At.Request != q) := by
      unfold dropM absM
      rw [List.filter_map]
      congr 1
    have hl : (L.filter fun x => x.At.Request != q).length ≤ L.length := List.length_filter_le ..
    simp only [Option.bind_some, ref12_Store_Drop_vo_k1, e, absM_length]
    rw [wrapI (by omega)]
  · unfold dropM absM
    rw [List.filter_map]
    congr 1

/-! ### Requests -/
theorem nodup_of_lt : ∀ {l : List Int}, l.Pairwise (· < ·) → l.Nodup := fun h => h.imp fun {a b} hab e => by omega
theorem sort_nub {l out : List Int} (h : out.Pairwise (· < ·)) (hm : ∀ x, x ∈ out ↔ x ∈ l) : (nubI l).mergeSort leI = out := by
  have hp : (nubI l).Perm out := (List.perm_ext_iff_of_nodup (nubI_nodup l) (nodup_of_lt h)).2 fun x => by rw [mem_nubI, hm x]
  rw [mergeSort_of_perm_i hp]
  exact List.mergeSort_of_pairwise (h.imp fun {a b} hab => by simp only [leI, decide_eq_true_eq]; omega)
/-- Where a request goes in. -/
theorem seek (out : List Int) (row : S_ref12_Row) (h : out.length ≤ 1000000) :
    ∃ k : Nat, k ≤ out.length ∧ loopO (fun s => ref12_Store_Requests_vo_b5 out row s) 0 = some (k : Int) ∧ (∀ j, j < k → ∀ x, out[j]? = some x → x < row.At.Request) ∧ (∀ x, out[k]? = some x → ¬ x < row.At.Request) := by
  have key := loop_upto (body := fun s => ref12_Store_Requests_vo_b5 out row s) out.length (fun k => ∀ j, j < k → ∀ x, out[j]? = some x → x < row.At.Request) (fun r => ∃ k : Nat, r = (k : Int) ∧ k ≤ out.length ∧ (∀ j, j < k → ∀ x, out[j]? = some x → x < row.At.Request) ∧ (∀ x, out[k]? = some x → ¬ x < row.At.Request)) (fun j h => by omega) ?_ ?_
  · obtain ⟨x, hx, k, rfl, h1, h2, h3⟩ := key
    exact ⟨k, h1, hx, h2, h3⟩
  · intro k hk hI
    have hk' : (k : Int) < (out.length : Int) := by omega
    simp only [ref12_Store_Requests_vo_b5, hk', decide_true, cond_true, getI_lt hk, Option.bind_some]
    unfold ref12_Store_Requests_vo_k7
    by_cases hx : out[k] < row.At.Request
    · left
      simp only [hx, decide_true, cond_true]
      refine ⟨by rw [wrapI (by omega)]; rfl, fun j hj x hjx => ?_⟩
      by_cases e : j = k
      · subst e
        rw [List.getElem?_eq_getElem hk] at hjx
        cases hjx; exact hx
      · exact hI j (by omega) x hjx
    · right
      simp only [hx, decide_false, cond_false]
      exact ⟨_, rfl, k, rfl, by omega, hI, fun x hkx => by rw [List.getElem?_eq_getElem hk] at hkx; cases hkx; exact hx⟩
  · intro hI
    refine ⟨_, by simp [ref12_Store_Requests_vo_b5, ref12_Store_Requests_vo_k7], out.length, rfl, Nat.le_refl _, hI, fun x hx => by simp at hx⟩
theorem sublists_lt {out : List Int} (h : out.Pairwise (· < ·)) {k : Nat} {y : Int} (h1 : ∀ j, j < k → ∀ x, out[j]? = some x → x < y) (h2 : ∀ x, out[k]? = some x → y < x) : (out.take k ++ [y] ++ out.drop k).Pairwise (· < ·) := by
  have ht : ∀ x ∈ out.take k, x < y := fun x hx => by
    obtain ⟨j, hj, rfl⟩ := List.mem_take_iff_getElem.1 hx
    exact h1 j (by omega) _ (List.getElem?_eq_getElem (by omega))
  have hd : ∀ x ∈ out.drop k, y < x := fun x hx => by
    cases hdk : out.drop k with
    | nil => rw [hdk] at hx; cases hx
    | cons z zs =>
      have hz : out[k]? = some z := by rw [← List.head?_drop, hdk]; rfl
      have hy := h2 z hz
      rw [hdk] at hx
      have hp : (z :: zs).Pairwise (· < ·) := by rw [← hdk]; exact h.sublist (List.drop_sublist ..)
      rcases List.mem_cons.1 hx with rfl | hx
      · exact hy
      · have := (List.pairwise_cons.1 hp).1 x hx
        omega
  rw [List.append_assoc, List.pairwise_append]
  refine ⟨h.sublist (List.take_sublist ..), ?_, ?_⟩
  · exact List.pairwise_cons.2 ⟨hd, h.sublist (List.drop_sublist ..)⟩
  · intro a ha b hb
    rcases List.mem_cons.1 hb with rfl | hb
    · exact ht a ha
    · have h3 := ht a ha; have h4 := hd b hb; omega
theorem ref12_Requests_eq (room : Int) (L : List S_ref12_Row) (hlen : L.length ≤ 1000000) :
    ∃ out, ref12_Store_Requests_vo ⟨room, L⟩ = some (out, ⟨room, L⟩) ∧ out.Pairwise (· < ·) ∧ (∀ x, x ∈ out ↔ x ∈ L.map (·.At.Request)) ∧ out.length ≤ L.length := by
  unfold ref12_Store_Requests_vo
  have key := loopO_run (body := fun s => ref12_Store_Requests_vo_b2 s.1 s.2.1 s.2.2) (fun s => ∃ (k : Nat) (out : List Int), s = (out, (k : Int), L) ∧ k ≤ L.length ∧ out.Pairwise (· < ·) ∧ (∀ x, x ∈ out ↔ x ∈ (L.take k).map (·.At.Request)) ∧ out.length ≤ k) (fun s => L.length - s.2.1.toNat)
    (fun r => ∃ out, r = (out, L) ∧ out.Pairwise (· < ·) ∧ (∀ x, x ∈ out ↔ x ∈ L.map (·.At.Request)) ∧ out.length ≤ L.length) ?_ (([] : List Int), 0, L) ⟨0, [], rfl, Nat.zero_le _, List.Pairwise.nil, by simp, Nat.le_refl _⟩
  · obtain ⟨x, hx, out, rfl, h1, h2, h3⟩ := key
    exact ⟨out, by rw [hx]; rfl, h1, h2, h3⟩
  · rintro s ⟨k, out, rfl, hk, hp, hm, hl⟩
    by_cases hkn : k = L.length
    · right
      subst hkn
      refine ⟨(out, L), by simp [ref12_Store_Requests_vo_b2], out, rfl, hp, by simpa using hm, hl⟩
    · left
      have hlt : k < L.length := by omega
      have hlt' : (k : Int) < (L.length : Int) := by omega
      have hmem : ∀ x, x ∈ (L.take (k + 1)).map (·.At.Request) ↔ x ∈ (L.take k).map (·.At.Request) ∨ x = L[k].At.Request := fun x => by
        rw [List.take_add_one, List.getElem?_eq_getElem hlt, List.map_append, List.mem_append]
        exact or_congr Iff.rfl (by simp)
      obtain ⟨i, hi, h1, h2, h3⟩ := seek out L[k] (by omega)
      have fin : ∀ out', out'.Pairwise (· < ·) → (∀ x, x ∈ out' ↔ x ∈ out ∨ x = L[k].At.Request) → out'.length ≤ k + 1 → ∃ s', ref12_Store_Requests_vo_k4 (k : Int) out' L = some (.inl s') ∧ (∃ (k : Nat) (out : List Int), s' = (out, (k : Int), L) ∧ k ≤ L.length ∧ out.Pairwise (· < ·) ∧ (∀ x, x ∈ out ↔ x ∈ (L.take k).map (·.At.Request)) ∧ out.length ≤ k) ∧ L.length - s'.2.1.toNat < L.length - k := fun out' g1 g2 g3 =>
        ⟨(out', ((k + 1 : Nat) : Int), L), by unfold ref12_Store_Requests_vo_k4; rw [wrapI (by omega)]; rfl, ⟨k + 1, out', rfl, by omega, g1, fun x => by rw [g2, hm, hmem], g3⟩, by simp; omega⟩
      simp only [ref12_Store_Requests_vo_b2, hlt', decide_true, cond_true, getI_lt hlt, Option.bind_some, h1]
      have add : (∀ x, out[i]? = some x → L[k].At.Request < x) → ∃ s', ref12_Store_Requests_vo_k8 out (k : Int) L L[k] (i : Int) false = some (.inl s') ∧ (∃ (k : Nat) (out : List Int), s' = (out, (k : Int), L) ∧ k ≤ L.length ∧ out.Pairwise (· < ·) ∧ (∀ x, x ∈ out ↔ x ∈ (L.take k).map (·.At.Request)) ∧ out.length ≤ k) ∧ L.length - s'.2.1.toNat < L.length - k := fun h4 => by
        unfold ref12_Store_Requests_vo_k8
        have e1 : subL out 0 (i : Int) = some (out.take i) := by
          unfold subL; simp; omega
        have e2 : subL out (i : Int) (out.length : Int) = some (out.drop i) := by
          unfold subL; simp; omega
        have l1 : (out.take i).length ≤ 1000000 := by rw [List.length_take]; omega
        have l2 : (out.drop i).length ≤ 1000000 := by rw [List.length_drop]; omega
        simp only [cond_false, e1, Option.bind_some]
        rw [app_nil (by unfold lim; omega), Option.bind_some, app_of (by unfold lim; simp only [List.length_singleton]; omega), Option.bind_some, e2, Option.bind_some, app_of (by unfold lim; simp only [List.length_append, List.length_singleton]; omega), Option.bind_some]
        refine fin _ (sublists_lt hp h2 h4) (fun x => ?_) (by simp only [List.length_append, List.length_singleton, List.length_take, List.length_drop]; omega)
        have e := List.take_append_drop i out
        conv => rhs; rw [← e]
        simp only [List.mem_append, List.mem_cons, List.not_mem_nil, or_false]
        constructor
        · rintro ((h | h) | h)
          · exact .inl (.inl h)
          · exact .inr h
          · exact .inl (.inr h)
        · rintro ((h | h) | h)
          · exact .inl (.inl h)
          · exact .inr h
          · exact .inl (.inr h)
      by_cases hin : i < out.length
      · have hin' : (i : Int) < (out.length : Int) := by omega
        simp only [hin', decide_true, cond_true, getI_lt hin, Option.bind_some]
        have h5 := h3 _ (List.getElem?_eq_getElem hin)
        by_cases he : out[i] = L[k].At.Request
        · have he' : (out[i] == L[k].At.Request) = true := by simpa using he
          rw [he']
          unfold ref12_Store_Requests_vo_k8
          simp only [cond_true]
          refine fin out hp (fun x => ⟨.inl, fun h => h.elim id fun h => by rw [h, ← he]; exact List.getElem_mem hin⟩) (by omega)
        · have he' : (out[i] == L[k].At.Request) = false := by simpa using he
          rw [he']
          refine add fun x hx => ?_
          rw [List.getElem?_eq_getElem hin] at hx
          cases hx; omega
      · have hin' : ¬ (i : Int) < (out.length : Int) := by omega
        simp only [hin', decide_false, cond_false]
        refine add fun x hx => ?_
        rw [List.getElem?_eq_none (by omega)] at hx
        cases hx
theorem wf64 {x : Int} (h : -9223372036854775808 ≤ x ∧ x ≤ 9223372036854775807) : (Lit.int .i64 x).wf = true := by
  simp [Lit.wf, IntKind.min, IntKind.max, IntKind.bits, IntKind.signed]; omega
theorem cache_Requests_eq {n : Nat} (room : Int) (m : CM) (hm : WfC n m) {out : List Int} (h1 : out.Pairwise (· < ·)) (h2 : ∀ x, x ∈ out ↔ x ∈ m.map fun p => p.1.Request) : cache_Store_Requests_vm ⟨room, m⟩ = some (out, ⟨room, m⟩) := by
  unfold cache_Store_Requests_vm sortO
  have hl : (nubI (m.map fun p => p.1.Request)).length ≤ m.length := by
    have := nodup_le _ (m.map fun p => p.1.Request) (nubI_nodup _) (fun x hx => mem_nubI.1 hx)
    simpa using this
  have h3 := hm.len; have h4 := hm.small
  have hok : intsOk (nubI (m.map fun p => p.1.Request)) = true := by
    unfold intsOk
    simp only [Bool.and_eq_true, List.all_eq_true, decide_eq_true_eq]
    refine ⟨fun x hx => ?_, by omega⟩
    obtain ⟨p, hp, rfl⟩ := List.mem_map.1 (mem_nubI.1 hx)
    have := (hm.ent p hp).req
    exact wf64 (by omega)
  have e : (List.map (fun (q_1 : S_api_Spot × S_cache_rows) => q_1.1.Request) m) = m.map fun p => p.1.Request := rfl
  simp only [e, hok, if_true, Option.bind_some, sort_nub h1 h2]

/-! ### The law's looks -/
theorem mget_of_mem {K V : Type} [DecidableEq K] {m : List (K × V)} (hn : (m.map (·.1)).Nodup) {p : K × V} (hp : p ∈ m) : mget m p.1 = some p.2 := by
  induction m with
  | nil => cases hp
  | cons q m ih =>
    rw [mget_cons]
    have h1 := List.nodup_cons.1 (show (q.1 :: m.map (·.1)).Nodup from hn)
    rcases List.mem_cons.1 hp with rfl | hp
    · simp
    · have : q.1 ≠ p.1 := fun e => h1.1 (by rw [e]; exact List.mem_map_of_mem hp)
      rw [if_neg this, ih h1.2 hp]
theorem row_get {n : Nat} {L : List S_ref12_Row} (h : WfC n (absM L)) {i : Nat} (hi : i < L.length) : mget (absM L) L[i].At = some ⟨L[i].K, L[i].V⟩ :=
  mget_of_mem (p := (L[i].At, ⟨L[i].K, L[i].V⟩)) h.keys (List.mem_map.2 ⟨L[i], List.getElem_mem hi, rfl⟩)
theorem getK {m : CM} {q l : Int} {N k : Nat} (h : k < N) : getI (lineK m q l N) (k : Int) = some ((mget m (at_ q l k)).getD rows0).k_ := by
  rw [getI_nat]; unfold lineK; simp [h]
theorem getV {m : CM} {q l : Int} {N k : Nat} (h : k < N) : getI (lineV m q l N) (k : Int) = some ((mget m (at_ q l k)).getD rows0).v_ := by
  rw [getI_nat]; unfold lineV; simp [h]
theorem lines_eq {n : Nat} (room room' : Int) (L : List S_ref12_Row) (a : S_api_Spot) (hm : WfC n (absM L)) : law12_lines_vm_vo ⟨room, absM L⟩ ⟨room', L⟩ a = some true := by
  have hlen : L.length ≤ 1000000 := by have h1 := hm.len; have h2 := hm.small; simp at h1; omega
  obtain ⟨N, hN, h0, h1⟩ := line_end (m := absM L) a.Request a.Layer
  have hN' : N ≤ L.length := by simpa using hN
  unfold law12_lines_vm_vo
  rw [cache_Line_eq room _ a.Request a.Layer hm hN h0 h1, Option.bind_some]
  have key := loop_upto (body := fun s => law12_lines_vm_vo_b1 ⟨room', L⟩ a (lineK (absM L) a.Request a.Layer N, lineV (absM L) a.Request a.Layer N) s) N (fun _ => True) (fun r => r = .ret true) trivial ?_ ?_
  · obtain ⟨x, hx, rfl⟩ := key
    rw [hx]; rfl
  · intro k hk _
    left
    have e : law12_spot a.Request a.Layer (k : Int) = some (at_ a.Request a.Layer k) := rfl
    simp only [law12_lines_vm_vo_b1, e, Option.bind_some, find_eq room' L _ hlen]
    rcases look12 L (at_ a.Request a.Layer k) with ⟨i, hi, h5, h6⟩ | ⟨h5, h6⟩
    · have hr := row_len hm hi
      have hk1 : ¬ (k : Int) ≥ (N : Int) := by omega
      simp only [h5]
      rw [show (decide ((i : Int) < 0)) = false by simp, cond_false]
      simp only [lineK_length, lineV_length, hk1, decide_false, cond_false, getK hk, getV hk, h6, Option.bind_some, Option.getD_some, getI_lt hi]
      rw [ref04_Bytes_eq _ _ (by omega), Option.bind_some, ref04_Bytes_eq _ _ (by omega), Option.bind_some]
      simp only [decide_true, Bool.not_true, cond_false, law12_lines_vm_vo_k4]
      rw [wrapI (by omega)]
      exact ⟨rfl, trivial⟩
    · have := h1 k hk
      rw [h6] at this; cases this
  · intro _
    have e : law12_spot a.Request a.Layer (N : Int) = some (at_ a.Request a.Layer N) := rfl
    simp only [law12_lines_vm_vo_b1, e, Option.bind_some, find_eq room' L _ hlen]
    rcases look12 L (at_ a.Request a.Layer N) with ⟨i, hi, h5, h6⟩ | ⟨h5, h6⟩
    · rw [h0] at h6; cases h6
    · simp only [h5]
      exact ⟨_, by simp [law12_lines_vm_vo_k3], rfl⟩
theorem rows_loop {n : Nat} (room : Int) (L : List S_ref12_Row) (hm : WfC n (absM L)) : loopO (fun s => law12_CacheActs_b20 ⟨room, L⟩ ⟨room, absM L⟩ s) 0 = some (.brk ()) := by
  have hlen : L.length ≤ 1000000 := by have h1 := hm.len; have h2 := hm.small; simp at h1; omega
  have key := loop_upto (body := fun s => law12_CacheActs_b20 ⟨room, L⟩ ⟨room, absM L⟩ s) L.length (fun _ => True) (fun r => r = .brk ()) trivial ?_ ?_
  · obtain ⟨x, hx, rfl⟩ := key
    exact hx
  · intro k hk _
    left
    have hr := row_len hm hk
    have hk' : (k : Int) < (L.length : Int) := by omega
    simp only [law12_CacheActs_b20, hk', decide_true, cond_true, getI_lt hk, Option.bind_some, cache_Get_eq room _ _ hm, row_get hm hk, Option.isSome_some, Bool.not_true, cond_false, Option.getD_some]
    rw [ref04_Bytes_eq _ _ (by omega), Option.bind_some, ref04_Bytes_eq _ _ (by omega), Option.bind_some]
    simp only [decide_true, Bool.not_true, cond_false, law12_CacheActs_k22]
    rw [wrapI (by omega)]
    exact ⟨rfl, trivial⟩
  · intro _
    exact ⟨_, by simp [law12_CacheActs_b20], rfl⟩
theorem tells12 {n : Nat} (room : Int) (k : Int) (x : S_law12_Act) (L : List S_ref12_Row) (hm : WfC n (absM L)) (hr : (L.length : Int) ≤ room) (hk : 0 ≤ k ∧ k ≤ 100) :
    law12_CacheActs_k16 room k x ⟨room, L⟩ ⟨room, absM L⟩ = some (.inl (k + 1, ⟨room, L⟩, ⟨room, absM L⟩)) := by
  have hlen : L.length ≤ 1000000 := by have h1 := hm.len; have h2 := hm.small; simp at h1; omega
  have hr' : ¬ (L.length : Int) > room := by omega
  unfold law12_CacheActs_k16 cache_Store_Len_vm cache_Store_Room_vm
  simp only [Option.bind_some, absM_length, bne_self_eq_false, cond_false, hr', decide_false]
  unfold law12_CacheActs_k17
  simp only [cond_false, rows_loop room L hm, Option.bind_some]
  unfold law12_CacheActs_k18
  rw [cache_Get_eq room _ _ hm, Option.bind_some, find_eq room L _ hlen, Option.bind_some, lines_eq room room L x.At hm]
  have e : ((mget (absM L) x.At).isSome != decide ((match L.findIdx? (fun y => decide (y.At = x.At)) with | some i => (i : Int) | none => -1) ≥ 0)) = false := by
    rcases look12 L x.At with ⟨i, hi, h5, h6⟩ | ⟨h5, h6⟩
    · simp only [h5, h6]; simp
    · simp only [h5, h6]; simp
  simp only [e, cond_false, Option.bind_some, Bool.not_true, law12_CacheActs_k19, law12_CacheActs_k14]
  rw [wrapI (by omega)]
theorem bump_loop (l : List Int) (h : l.length ≤ 1000000) : ∃ x, loopO (fun s => law12_CacheActs_b24 s.1 s.2) (l, 0) = some x := by
  have key := loopO_run (body := fun s => law12_CacheActs_b24 s.1 s.2) (fun s => ∃ (k : Nat) (l' : List Int), s = (l', (k : Int)) ∧ l'.length = l.length ∧ k ≤ l.length) (fun s => l.length - s.2.toNat) (fun _ => True) ?_ (l, 0) ⟨0, l, rfl, rfl, Nat.zero_le _⟩
  · obtain ⟨x, hx, _⟩ := key
    exact ⟨x, hx⟩
  · rintro s ⟨k, l', rfl, h1, h2⟩
    by_cases hk : k = l.length
    · right
      exact ⟨(), by simp [law12_CacheActs_b24, h1, hk], trivial⟩
    · left
      have hlt : k < l'.length := by omega
      have hlt' : (k : Int) < (l'.length : Int) := by omega
      simp only [law12_CacheActs_b24, hlt', decide_true, cond_true, getI_lt hlt, Option.bind_some]
      rw [wrapI (by omega)]
      exact ⟨_, rfl, ⟨k + 1, _, rfl, by simp [h1], by omega⟩, by simp; omega⟩
theorem putE_length (room : Int) (m : CM) (a : S_api_Spot) (k v : List Int) (h : (m.length : Int) ≤ room) : ((putE room m a k v).2.length : Int) ≤ room := by
  unfold putE
  split
  · exact h
  split
  · exact h
  split
  · exact h
  split
  · split <;> exact h
  · split
    · exact h
    · rename_i hg hlt
      rw [mput_new _ hg]
      simp at hlt ⊢
      omega
theorem act12_step (room : Int) (acts : List S_law12_Act) (hw : wfL wf_law12_Act acts) (k : Nat) (hk : k < acts.length) (hk2 : k ≤ 60) {L : List S_ref12_Row} (hm : WfC k (absM L)) (hr : (L.length : Int) ≤ room) :
    law12_CacheActs_b12 room acts (k : Int) ⟨room, L⟩ ⟨room, absM L⟩ = some (.inr (.ret true)) ∨
    ∃ L', law12_CacheActs_b12 room acts (k : Int) ⟨room, L⟩ ⟨room, absM L⟩ = some (.inl (((k + 1 : Nat) : Int), ⟨room, L'⟩, ⟨room, absM L'⟩)) ∧ WfC (k + 1) (absM L') ∧ (L'.length : Int) ≤ room := by
  have hk' : (k : Int) < (acts.length : Int) := by omega
  obtain ⟨w1, w2, w3, w4⟩ := hw.2 _ (List.getElem_mem hk)
  obtain ⟨w5, w6, w7⟩ := w2
  have w5 := i64K w5; have w6 := i64K w6; have w7 := i64K w7
  have up : WfC (k + 1) (absM L) := hm.up (by omega) (by omega)
  unfold law12_CacheActs_b12
  simp only [hk', decide_true, cond_true, getI_lt hk, Option.bind_some]
  generalize acts[k] = x at w1 w3 w4 w5 w6 w7
  have step : (x.K.length ≤ 100 ∧ x.V.length ≤ 100) → ∃ L', law12_CacheActs_k15 room (k : Int) ⟨room, L⟩ ⟨room, absM L⟩ x false = some (.inl (((k + 1 : Nat) : Int), ⟨room, L'⟩, ⟨room, absM L'⟩)) ∧ WfC (k + 1) (absM L') ∧ (L'.length : Int) ≤ room := by
    rintro ⟨hK, hV⟩
    unfold law12_CacheActs_k15
    simp only [cond_false]
    by_cases c0 : x.Kind = 0
    · have e0 : (x.Kind == 0) = true := by simpa using c0
      rw [e0, cond_true, app_nil (by unfold lim; omega), Option.bind_some, app_nil (by unfold lim; omega), Option.bind_some]
      unfold law12_CacheActs_k23
      obtain ⟨L', h1, h2⟩ := ref12_Put_eq room L x.At x.K x.V hm (by omega) hK hV
      obtain ⟨y, hy⟩ := bump_loop x.K (by omega)
      rw [cache_Put_eq room _ _ _ _ hm (by omega) hK hV, Option.bind_some, h1, Option.bind_some]
      simp only [bne_self_eq_false, cond_false, hy, Option.bind_some]
      have hwf : WfC (k + 1) (absM L') := by rw [h2]; exact hm.put ⟨by omega, by omega, by omega⟩ hK hV (by omega)
      have hln : (L'.length : Int) ≤ room := by
        have := putE_length room (absM L) x.At x.K x.V (by simpa using hr)
        rw [← h2] at this
        simpa using this
      rw [← h2]
      exact ⟨L', tells12 room k x L' hwf hln (by omega), hwf, hln⟩
    have e0 : (x.Kind == 0) = false := by simpa using c0
    rw [e0, cond_false]
    by_cases c1 : x.Kind = 1
    · have e1 : (x.Kind == 1) = true := by simpa using c1
      obtain ⟨L', h1, h2⟩ := ref12_Drop_eq room L x.At.Request hm
      rw [e1, cond_true, cache_Drop_eq room _ _ hm, Option.bind_some, h1, Option.bind_some]
      simp only [bne_self_eq_false, cond_false]
      have hwf : WfC (k + 1) (absM L') := by rw [h2]; exact up.drop _
      have hln : (L'.length : Int) ≤ room := by
        have : (absM L').length ≤ (absM L).length := by rw [h2]; exact List.length_filter_le ..
        simp at this; omega
      rw [← h2]
      exact ⟨L', tells12 room k x L' hwf hln (by omega), hwf, hln⟩
    have e1 : (x.Kind == 1) = false := by simpa using c1
    rw [e1, cond_false]
    by_cases c2 : x.Kind = 2
    · have e2 : (x.Kind == 2) = true := by simpa using c2
      rw [e2, cond_true]
      unfold cache_Store_Clear_vm
      rw [Option.bind_some]
      exact ⟨[], tells12 room k x [] (WfC.nil (n := 0) (by omega)) (by simp; omega) (by omega), WfC.nil (by omega), by simp; omega⟩
    have e2 : (x.Kind == 2) = false := by simpa using c2
    rw [e2, cond_false]
    exact ⟨L, tells12 room k x L hm hr (by omega), up, hr⟩
  by_cases h1 : (x.K.length : Int) > 100
  · left
    simp [h1, law12_CacheActs_k15]
  · by_cases h2 : (x.V.length : Int) > 100
    · left
      simp [h1, h2, law12_CacheActs_k15]
    · right
      simp only [h1, h2, decide_false, cond_false]
      exact step ⟨by omega, by omega⟩
theorem cache_New_eq (room : Int) : cache_New room = some (if room < 0 ∨ room > 1048576 then (none, 2) else (some ⟨room, []⟩, 0)) := by
  unfold cache_New cache_New_k1
  by_cases h1 : room < 0
  · simp [h1]
  · by_cases h2 : room > 1048576
    · simp [h1, h2]
    · simp [h1, h2]
theorem awake12 : law12_awake = some true := by
  unfold law12_awake
  rw [cache_New_eq]
  have h0 : WfC 0 [] := WfC.nil (by omega)
  have e1 : putE 2 [] ⟨7, 0, 1⟩ [1] [1] = (120, []) := rfl
  have e2 : putE 2 [] ⟨7, 0, 0⟩ [1] [1] = (0, [(⟨7, 0, 0⟩, ⟨[1], [1]⟩)]) := rfl
  have e3 : putE 2 [(⟨7, 0, 0⟩, ⟨[1], [1]⟩)] ⟨7, 0, 1⟩ [1] [1] = (0, [(⟨7, 0, 0⟩, ⟨[1], [1]⟩), (⟨7, 0, 1⟩, ⟨[1], [1]⟩)]) := rfl
  have e4 : putE 2 [(⟨7, 0, 0⟩, ⟨[1], [1]⟩), (⟨7, 0, 1⟩, ⟨[1], [1]⟩)] ⟨7, 1, 0⟩ [1] [1] = (80, [(⟨7, 0, 0⟩, ⟨[1], [1]⟩), (⟨7, 0, 1⟩, ⟨[1], [1]⟩)]) := rfl
  have e5 : putE 2 [(⟨7, 0, 0⟩, ⟨[1], [1]⟩), (⟨7, 0, 1⟩, ⟨[1], [1]⟩)] ⟨7, 0, 0⟩ [1] [1] = (0, [(⟨7, 0, 0⟩, ⟨[1], [1]⟩), (⟨7, 0, 1⟩, ⟨[1], [1]⟩)]) := rfl
  have e6 : putE 2 [(⟨7, 0, 0⟩, ⟨[1], [1]⟩), (⟨7, 0, 1⟩, ⟨[1], [1]⟩)] ⟨7, 0, 0⟩ [1] [2] = (2, [(⟨7, 0, 0⟩, ⟨[1], [1]⟩), (⟨7, 0, 1⟩, ⟨[1], [1]⟩)]) := rfl
  have h2 : WfC 1 [(⟨7, 0, 0⟩, ⟨[1], [1]⟩)] := by
    have := h0.put (room := 2) (a := ⟨7, 0, 0⟩) (k := [1]) (v := [1]) ⟨by decide, by decide, by decide⟩ (by simp) (by simp) (by omega)
    rw [e2] at this; exact this
  have h3 : WfC 2 [(⟨7, 0, 0⟩, ⟨[1], [1]⟩), (⟨7, 0, 1⟩, ⟨[1], [1]⟩)] := by
    have := h2.put (room := 2) (a := ⟨7, 0, 1⟩) (k := [1]) (v := [1]) ⟨by decide, by decide, by decide⟩ (by simp) (by simp) (by omega)
    rw [e3] at this; exact this
  simp only [law12_spot, law12_awake_k2, law12_awake_k3, Option.bind_some, show ¬ ((2 : Int) < 0 ∨ (2 : Int) > 1048576) by omega, if_false, Option.elim_some, bne_self_eq_false, cond_false]
  rw [cache_Put_eq 2 [] _ _ _ h0 (by decide) (by simp) (by simp), e1]
  simp only [Option.bind_some]
  rw [cache_Put_eq 2 [] _ _ _ h0 (by decide) (by simp) (by simp), e2]
  simp only [Option.bind_some]
  rw [cache_Put_eq 2 _ _ _ _ h2 (by decide) (by simp) (by simp), e3]
  simp only [Option.bind_some]
  rw [cache_Put_eq 2 _ _ _ _ h3 (by decide) (by simp) (by simp), e4]
  simp only [Option.bind_some]
  rw [cache_Put_eq 2 _ _ _ _ h3 (by decide) (by simp) (by simp), e5]
  simp only [Option.bind_some]
  rw [cache_Put_eq 2 _ _ _ _ h3 (by decide) (by simp) (by simp), e6]
  simp only [Option.bind_some, beq_self_eq_true, cond_true]
  rw [cache_Drop_eq 2 _ _ h3]
  rfl
theorem law12_CacheActs_true (room : Int) (acts : List S_law12_Act) (hr : (inK .i64) room) (hw : wfL wf_law12_Act acts) : law12_CacheActs room acts = some true := by
  unfold law12_CacheActs
  rw [awake12]
  simp only [Option.bind_some, Bool.not_true, cond_false]
  by_cases hn : ((acts.length : Int) > 60)
  · simp only [hn, decide_true, law12_CacheActs_k1, cond_true, awake12, Option.bind_some]
  simp only [hn, decide_false, law12_CacheActs_k1, cond_false, cache_New_eq, Option.bind_some]
  by_cases h1 : room < 0
  · simp [h1, law12_CacheActs_k2, law12_CacheActs_k3]
  by_cases h2 : room > 1048576
  · simp [h1, h2, law12_CacheActs_k2, law12_CacheActs_k3]
  have h3 : ¬ (room < 0 ∨ room > 1048576) := by omega
  rw [if_neg h3]
  simp only [Option.elim_some, h1, h2, decide_false, cond_false, law12_CacheActs_k5, law12_CacheActs_k7, bne_self_eq_false]
  have key := loopO_run (body := fun t => law12_CacheActs_b12 room acts t.1 t.2.1 t.2.2) (fun t => ∃ (k : Nat) (L : List S_ref12_Row), t = ((k : Int), ⟨room, L⟩, ⟨room, absM L⟩) ∧ k ≤ acts.length ∧ WfC k (absM L) ∧ (L.length : Int) ≤ room) (fun t => acts.length - t.1.toNat)
    (fun r => r = .ret true ∨ ∃ (L : List S_ref12_Row), r = .brk (⟨room, L⟩, ⟨room, absM L⟩) ∧ WfC 60 (absM L)) ?_ (0, (⟨room, []⟩ : S_ref12_Store), ⟨room, []⟩) ⟨0, [], rfl, Nat.zero_le _, WfC.nil (by omega), by simp; omega⟩
  · obtain ⟨x, hx, hx2⟩ := key
    rw [hx]
    rcases hx2 with rfl | ⟨L, rfl, hwf⟩
    · rfl
    · have hl : L.length ≤ 60 := by have := hwf.len; simpa using this
      obtain ⟨out, o1, o2, o3, o4⟩ := ref12_Requests_eq room L (by omega)
      have o3' : ∀ x, x ∈ out ↔ x ∈ (absM L).map fun p => p.1.Request := fun x => by rw [o3]; unfold absM; rw [List.map_map]; rfl
      simp only [Option.bind_some, law12_CacheActs_k8, cache_Requests_eq room _ hwf o2 o3', o1, bne_self_eq_false, cond_false]
      rw [eq_loop (.ret false) (.brk ()) out out rfl (by omega) (fun k => rfl)]
      simp [law12_CacheActs_k9]
  · rintro t ⟨k, L, rfl, hk, h4, h5⟩
    by_cases hkn : k = acts.length
    · right
      exact ⟨.brk (⟨room, L⟩, ⟨room, absM L⟩), by simp [law12_CacheActs_b12, hkn], .inr ⟨L, rfl, h4.up (by omega) (by omega)⟩⟩
    · have hlt : k < acts.length := by omega
      rcases act12_step room acts hw k hlt (by omega) h4 h5 with h6 | ⟨L', h6, h7, h8⟩
      · exact .inr ⟨_, h6, .inl rfl⟩
      · exact .inl ⟨_, h6, ⟨k + 1, L', rfl, by omega, h7, h8⟩, by simp; omega⟩
end Go.Pel

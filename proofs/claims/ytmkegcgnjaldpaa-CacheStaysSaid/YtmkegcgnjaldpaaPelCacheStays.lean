/- CacheStays: what is laid at a spot stays. (CacheSpec's text over this law's print: PelCacheSpecS.) -/
import Derived.Test.YtmkegcgnjaldpaaPelCacheSpecS
set_option linter.unusedVariables false
namespace Go.Pel
open Go.RowKit Go.Proofs

def spot0 : S_api_Spot := ⟨3, 1, 0⟩
theorem bytes_eq12 (a b : List Int) (h : a.length ≤ 4611686018427387904) : ref04_Bytes a b = some (decide (a = b)) := by
  unfold ref04_Bytes ref04_Bytes_k1
  by_cases hl : a.length = b.length
  · have : ((a.length : Int) != (b.length : Int)) = false := by simp [hl]
    rw [this, cond_false, eq_loop (.ret false) (.brk ()) a b hl h (fun k => rfl)]
    by_cases hab : a = b
    · simp [hab]
    · simp [hab]
  · have : ((a.length : Int) != (b.length : Int)) = true := by simp; omega
    have hne : a ≠ b := fun e => hl (by rw [e])
    rw [this, cond_true]; simp [hne]
theorem wf64' {x : Int} (h : -9223372036854775808 ≤ x ∧ x ≤ 9223372036854775807) : (Lit.int .i64 x).wf = true := by
  simp [Lit.wf, IntKind.min, IntKind.max, IntKind.bits, IntKind.signed]; omega
theorem requests_len {n : Nat} (room : Int) (m : CM) (hm : WfC n m) : ∃ out, cache_Store_Requests_vm ⟨room, m⟩ = some (out, ⟨room, m⟩) ∧ out.length ≤ m.length := by
  unfold cache_Store_Requests_vm sortO
  have hl : (nubI (m.map fun p => p.1.Request)).length ≤ m.length := by
    have := nodup_le _ (m.map fun p => p.1.Request) (nubI_nodup _) (fun x hx => mem_nubI.1 hx)
    simpa using this
  have h3 := hm.len; have h4 := hm.small
  have hok : intsOk (nubI (m.map fun p => p.1.Request)) = true := by
    unfold intsOk
    simp only [Bool.and_eq_true, List.all_eq_true, decide_eq_true_eq]
    refine ⟨fun x hx => ?_, by omega⟩
    obtain ⟨p, hp, rfl⟩ := List.mem_map.1 (mem_nubI.1 hx)
    have := (hm.ent p hp).req
    exact wf64' (by omega)
  have e : (List.map (fun (q_1 : S_api_Spot × S_cache_rows) => q_1.1.Request) m) = m.map fun p => p.1.Request := rfl
  simp only [e, hok, if_true, Option.bind_some]
  exact ⟨_, rfl, by simpa using hl⟩
theorem mget_drop (m : CM) (q : Int) (a : S_api_Spot) (h : a.Request ≠ q) : mget (dropM m q) a = mget m a := by
  induction m with
  | nil => rfl
  | cons p m ih =>
    rw [mget_cons]
    unfold dropM
    rw [List.filter_cons]
    by_cases h1 : p.1.Request = q
    · rw [if_neg (by simpa using h1)]
      have : p.1 ≠ a := fun e => h (by rw [← e]; exact h1)
      rw [if_neg this]
      exact ih
    · rw [if_pos (by simpa using h1), mget_cons]
      split
      · rfl
      · exact ih
theorem putE_keeps {room : Int} {m : CM} {a b : S_api_Spot} {x v : List Int} {r : S_cache_rows} (h : mget m b = some r) : mget (putE room m a x v).2 b = some r := by
  unfold putE
  split
  · exact h
  split
  · exact h
  split
  · exact h
  split
  · split <;> exact h
  · rename_i hg
    split
    · exact h
    · show mget (mput m a ⟨x, v⟩) b = some r
      rw [mput_new _ hg, mget_append, h]; rfl
theorem putE_drop (room : Int) (m : CM) (a : S_api_Spot) (x v : List Int) (q : Int) : (dropM (putE room m a x v).2 q).length ≤ (dropM m q).length + 1 := by
  have h0 : (dropM m q).length ≤ (dropM m q).length + 1 := Nat.le_succ _
  unfold putE
  split
  · exact h0
  split
  · exact h0
  split
  · exact h0
  split
  · split <;> exact h0
  · rename_i hg
    split
    · exact h0
    · show (dropM (mput m a ⟨x, v⟩) q).length ≤ _
      rw [mput_new _ hg]
      unfold dropM
      rw [List.filter_append, List.length_append]
      have : (List.filter (fun p : S_api_Spot × S_cache_rows => !decide (p.1.Request = q)) [(a, (⟨x, v⟩ : S_cache_rows))]).length ≤ 1 := List.length_filter_le ..
      omega
theorem drop_drop (m : CM) (q q' : Int) : (dropM (dropM m q) q').length ≤ (dropM m q').length := by
  unfold dropM
  rw [List.filter_filter]
  have e : List.filter (fun p : S_api_Spot × S_cache_rows => !decide (p.1.Request = q') && !decide (p.1.Request = q)) m = (m.filter fun p => !decide (p.1.Request = q')).filter fun p => !decide (p.1.Request = q) := by
    rw [List.filter_filter]
    apply List.filter_congr
    intro p _
    exact Bool.and_comm ..
  rw [e]
  exact List.length_filter_le ..
theorem zero_loop (n : Nat) (hn : n ≤ 100) (a b : List Int) (ha : a.length = n) (hb : b.length = n) : ∃ x, loopO (fun s => law12_CacheStays_b16 s.1 s.2.1 s.2.2) (a, b, 0) = some x := by
  have key := loopO_run (body := fun s => law12_CacheStays_b16 s.1 s.2.1 s.2.2) (fun s => ∃ (k : Nat) (a b : List Int), s = (a, b, (k : Int)) ∧ a.length = n ∧ b.length = n ∧ k ≤ n) (fun s => n - s.2.2.toNat) (fun _ => True) ?_ (a, b, 0) ⟨0, a, b, rfl, ha, hb, Nat.zero_le _⟩
  · obtain ⟨x, hx, _⟩ := key
    exact ⟨x, hx⟩
  · rintro s ⟨k, a, b, rfl, h1, h2, h3⟩
    by_cases hk : k = n
    · right
      exact ⟨(), by simp [law12_CacheStays_b16, h1, hk], trivial⟩
    · left
      have hlt : k < a.length := by omega
      have hlt2 : k < b.length := by omega
      have hlt' : (k : Int) < (a.length : Int) := by omega
      simp only [law12_CacheStays_b16, hlt', decide_true, cond_true, getI_lt hlt, getI_lt hlt2, Option.bind_some]
      rw [wrapI (by omega)]
      exact ⟨_, rfl, ⟨k + 1, _, _, rfl, by simp [h1], by simp [h2], by omega⟩, by simp; omega⟩
theorem nine_loop (x : List Int) (hn : x.length ≤ 100) (ks : List (List Int)) (y : List Int) (rest : List (List Int)) (hy : y.length = x.length) (hk : ks = y :: rest) : ∃ z, loopO (fun s => law12_CacheStays_b14 x s.1 s.2) (ks, 0) = some z := by
  have key := loopO_run (body := fun s => law12_CacheStays_b14 x s.1 s.2) (fun s => ∃ (k : Nat) (y : List Int) (rest : List (List Int)), s = (y :: rest, (k : Int)) ∧ y.length = x.length ∧ k ≤ x.length) (fun s => x.length - s.2.toNat) (fun _ => True) ?_ (ks, 0) ⟨0, y, rest, by rw [hk]; rfl, hy, Nat.zero_le _⟩
  · obtain ⟨z, hz, _⟩ := key
    exact ⟨z, hz⟩
  · rintro s ⟨k, y, rest, rfl, h1, h2⟩
    by_cases hk : k = x.length
    · right
      exact ⟨(), by simp [law12_CacheStays_b14, hk], trivial⟩
    · left
      have hlt : k < y.length := by omega
      have hlt' : (k : Int) < (x.length : Int) := by omega
      have e0 : getI (y :: rest) 0 = some y := rfl
      simp only [law12_CacheStays_b14, hlt', decide_true, cond_true, e0, getI_lt hlt, Option.bind_some]
      rw [wrapI (by omega)]
      exact ⟨_, rfl, ⟨k + 1, _, _, rfl, by simp [h1], by omega⟩, by simp; omega⟩
/-- What is told of the spot, round by round. -/
theorem stays_told {n : Nat} (k v : List Int) (hk : k.length ≤ 100) (hv : v.length = k.length) {m : CM} (hm : WfC n m) (hg : mget m spot0 = some ⟨k, v⟩) (i : Int) (hi : 0 ≤ i ∧ i ≤ 100) :
    law12_CacheStays_k10 k v i ⟨50, m⟩ = some (.inl (i + 1, ⟨50, m⟩)) := by
  unfold law12_CacheStays_k10
  have e : law12_spot 3 1 0 = some spot0 := rfl
  rw [e, Option.bind_some, cache_Get_eq 50 m spot0 hm, Option.bind_some]
  simp only [hg, Option.isSome_some, Bool.not_true, cond_false, Option.getD_some]
  rw [bytes_eq12 k k (by omega), Option.bind_some, bytes_eq12 v v (by omega), Option.bind_some]
  simp only [decide_true, Bool.not_true, cond_false]
  unfold law12_CacheStays_k11
  obtain ⟨z, hz⟩ := zero_loop k.length hk k v rfl hv
  simp only [cond_false, hz, Option.bind_some]
  unfold law12_CacheStays_k12
  obtain ⟨N, hN, h0, h1⟩ := line_end (m := m) 3 1
  rw [cache_Line_eq 50 m 3 1 hm hN h0 h1, Option.bind_some]
  have hsp : at_ 3 1 0 = spot0 := rfl
  have hpos : 0 < N := by
    rcases Nat.eq_zero_or_pos N with h | h
    · subst h; rw [hsp, hg] at h0; cases h0
    · exact h
  obtain ⟨M, rfl⟩ : ∃ M, N = M + 1 := ⟨N - 1, by omega⟩
  have hks : lineK m 3 1 (M + 1) = k :: (List.range M).map fun j => ((mget m (at_ 3 1 (j + 1))).getD rows0).k_ := by
    unfold lineK
    rw [List.range_succ_eq_map]
    simp [hsp, hg, Function.comp_def]
  have hlen : ¬ ((lineK m 3 1 (M + 1)).length : Int) < 1 := by simp; omega
  have e0 : getI (lineK m 3 1 (M + 1)) 0 = some k := by rw [hks]; rfl
  simp only [hlen, decide_false, cond_false, e0, Option.bind_some]
  rw [bytes_eq12 k k (by omega), Option.bind_some]
  obtain ⟨z2, hz2⟩ := nine_loop k hk _ k _ rfl hks
  simp only [decide_true, Bool.not_true, law12_CacheStays_k13, cond_false, hz2, Option.bind_some, law12_CacheStays_k8]
  rw [wrapI (by omega)]
structure InS (j : Nat) (k v : List Int) (m : CM) : Prop where
  wf : WfC (j + 1) m
  got : mget m spot0 = some ⟨k, v⟩
  few : (dropM m 3).length ≤ j
theorem stays_step (k v : List Int) (hk : k.length ≤ 100) (hv : v.length = k.length) (acts : List S_law12_Act) (hw : wfL wf_law12_Act acts) (j : Nat) (hj : j < acts.length) (hj2 : j ≤ 60) {m : CM} (hm : InS j k v m) :
    law12_CacheStays_b6 k v acts (j : Int) ⟨50, m⟩ = some (.inr (.ret true)) ∨ ∃ m', law12_CacheStays_b6 k v acts (j : Int) ⟨50, m⟩ = some (.inl (((j + 1 : Nat) : Int), ⟨50, m'⟩)) ∧ InS (j + 1) k v m' := by
  have hj' : (j : Int) < (acts.length : Int) := by omega
  obtain ⟨w1, w2, w3, w4⟩ := hw.2 _ (List.getElem_mem hj)
  obtain ⟨w5, w6, w7⟩ := w2
  have w5 := i64K w5; have w6 := i64K w6; have w7 := i64K w7
  unfold law12_CacheStays_b6
  simp only [hj', decide_true, cond_true, getI_lt hj, Option.bind_some]
  generalize acts[j] = x at w1 w3 w4 w5 w6 w7
  have up : InS (j + 1) k v m := ⟨hm.wf.up (by omega) (by omega), hm.got, Nat.le_succ_of_le hm.few⟩
  have step : (x.K.length ≤ 100 ∧ x.V.length ≤ 100) → ∃ m', law12_CacheStays_k9 k v (j : Int) ⟨50, m⟩ x false = some (.inl (((j + 1 : Nat) : Int), ⟨50, m'⟩)) ∧ InS (j + 1) k v m' := by
    rintro ⟨hK, hV⟩
    unfold law12_CacheStays_k9
    simp only [cond_false]
    by_cases c0 : x.Kind = 0
    · have e0 : (x.Kind == 0) = true := by simpa using c0
      rw [e0, cond_true, cache_Put_eq 50 m _ _ _ hm.wf w7.2 hK hV, Option.bind_some]
      have hin : InS (j + 1) k v (putE 50 m x.At x.K x.V).2 := ⟨hm.wf.put ⟨w5.2, w6.2, w7.2⟩ hK hV (by omega), putE_keeps hm.got, Nat.le_trans (putE_drop ..) (Nat.succ_le_succ hm.few)⟩
      exact ⟨_, stays_told k v hk hv hin.wf hin.got (j : Int) (by omega), hin⟩
    have e0 : (x.Kind == 0) = false := by simpa using c0
    rw [e0, cond_false]
    by_cases c1 : x.Kind = 1
    · have e1 : (x.Kind == 1) = true := by simpa using c1
      rw [e1, cond_true]
      by_cases c2 : x.At.Request = 3
      · have e2 : (x.At.Request != 3) = false := by simp [c2]
        rw [e2, cond_false]
        exact ⟨m, stays_told k v hk hv up.wf up.got (j : Int) (by omega), up⟩
      · have e2 : (x.At.Request != 3) = true := by simpa using c2
        rw [e2, cond_true, cache_Drop_eq 50 m _ hm.wf, Option.bind_some]
        have hin : InS (j + 1) k v (dropM m x.At.Request) := ⟨up.wf.drop _, by rw [mget_drop m _ spot0 (fun e => c2 e.symm)]; exact hm.got, Nat.le_trans (drop_drop ..) up.few⟩
        exact ⟨_, stays_told k v hk hv hin.wf hin.got (j : Int) (by omega), hin⟩
    have e1 : (x.Kind == 1) = false := by simpa using c1
    rw [e1, cond_false]
    exact ⟨m, stays_told k v hk hv up.wf up.got (j : Int) (by omega), up⟩
  by_cases h1 : (x.K.length : Int) > 100
  · left
    simp [h1, law12_CacheStays_k9]
  · by_cases h2 : (x.V.length : Int) > 100
    · left
      simp [h1, h2, law12_CacheStays_k9]
    · right
      simp only [h1, h2, decide_false, cond_false]
      exact step ⟨by omega, by omega⟩
theorem law12_CacheStays_true (k v : List Int) (acts : List S_law12_Act) (hk0 : wfL (inK .i8) k) (hv0 : wfL (inK .i8) v) (hw : wfL wf_law12_Act acts) : law12_CacheStays k v acts = some true := by
  unfold law12_CacheStays
  rw [awake12]
  simp only [Option.bind_some, Bool.not_true, cond_false]
  have dull : law12_CacheStays_k1 k v acts true = some true := by simp only [law12_CacheStays_k1, cond_true, awake12, Option.bind_some]
  by_cases h1 : ((k.length : Int) > 100)
  · simp only [h1, decide_true, cond_true, dull]
  by_cases h2 : ¬ v.length = k.length
  · have e2 : ((v.length : Int) != (k.length : Int)) = true := by simp; omega
    simp only [h1, decide_false, cond_false, e2, cond_true, dull]
  have h2 : v.length = k.length := Decidable.not_not.1 h2
  have e2 : ((v.length : Int) != (k.length : Int)) = false := by simp [h2]
  simp only [h1, decide_false, cond_false, e2]
  by_cases h3 : ((acts.length : Int) > 60)
  · simp only [h3, decide_true, dull]
  simp only [h3, decide_false]
  have hk : k.length ≤ 100 := by omega
  have hnew : cache_New 50 = some (some ⟨50, []⟩, 0) := by rw [cache_New_eq]; rfl
  have hput : putE 50 [] spot0 k v = (0, [(spot0, ⟨k, v⟩)]) := by
    unfold putE
    have hb : badS spot0 = false := rfl
    rw [hb]
    simp only [Bool.false_eq_true, if_false]
    rw [if_neg (by simpa using h2.symm)]
    rfl
  have hsp : law12_spot 3 1 0 = some spot0 := rfl
  have hw0 : WfC 1 [(spot0, (⟨k, v⟩ : S_cache_rows))] := by
    have := (WfC.nil (n := 0) (by omega)).put (room := 50) (a := spot0) (k := k) (v := v) ⟨by decide, by decide, by decide⟩ hk (by omega) (by omega)
    rw [hput] at this; exact this
  simp only [law12_CacheStays_k1, cond_false, hnew, Option.bind_some, Option.elim_some, bne_self_eq_false, hsp]
  rw [cache_Put_eq 50 [] spot0 k v (WfC.nil (n := 0) (by omega)) (by decide) hk (by omega), Option.bind_some, hput]
  simp only [bne_self_eq_false, law12_CacheStays_k3, cond_false]
  have key := loopO_run (body := fun t => law12_CacheStays_b6 k v acts t.1 t.2) (fun t => ∃ (j : Nat) (m : CM), t = ((j : Int), ⟨50, m⟩) ∧ j ≤ acts.length ∧ InS j k v m) (fun t => acts.length - t.1.toNat)
    (fun r => r = .ret true ∨ ∃ (m : CM), r = .brk ⟨50, m⟩ ∧ InS acts.length k v m) ?_ (0, ⟨50, [(spot0, ⟨k, v⟩)]⟩) ⟨0, [(spot0, ⟨k, v⟩)], rfl, Nat.zero_le _, ⟨hw0, rfl, Nat.le_of_eq rfl⟩⟩
  · obtain ⟨x, hx, hx2⟩ := key
    rw [hx]
    rcases hx2 with rfl | ⟨m, rfl, hin⟩
    · rfl
    · simp only [Option.bind_some, law12_CacheStays_k4]
      rw [cache_Drop_eq 50 m 3 hin.wf, Option.bind_some]
      obtain ⟨out, o1, o2⟩ := requests_len 50 (dropM m 3) (hin.wf.drop 3)
      have hlt : (dropM m 3).length < m.length := by
        unfold dropM
        refine List.length_filter_lt_length_iff_exists.2 ⟨_, mget_mem hin.got, by simp [spot0]⟩
      have hge : (m.length : Int) - ((dropM m 3).length : Int) ≥ 1 := by omega
      have hfew := hin.few
      simp only [hge, decide_true, cond_true, o1, Option.bind_some, law12_CacheStays_k5]
      have : (out.length : Int) ≤ (acts.length : Int) := by omega
      simp [this]
  · rintro t ⟨j, m, rfl, hj, hin⟩
    by_cases hjn : j = acts.length
    · right
      subst hjn
      exact ⟨.brk ⟨50, m⟩, by simp [law12_CacheStays_b6], .inr ⟨m, rfl, hin⟩⟩
    · have hlt : j < acts.length := by omega
      rcases stays_step k v hk h2 acts hw j hlt (by omega) hin with h6 | ⟨m', h6, h7⟩
      · exact .inr ⟨_, h6, .inl rfl⟩
      · exact .inl ⟨_, h6, ⟨j + 1, m', rfl, by omega, h7⟩, by simp; omega⟩
end Go.Pel

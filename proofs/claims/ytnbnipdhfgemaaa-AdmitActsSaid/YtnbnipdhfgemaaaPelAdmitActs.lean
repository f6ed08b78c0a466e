/- AdmitActs: a desk answers as the document's list does. -/
import Derived.Test.YtnbnipdhfgemaaaPelAdmitX1
import Derived.Test.YtnbnipdhfgemaaaPelAdmitA
import Derived.Test.YtnbnipdhfgemaaaPelPure
set_option linter.unusedVariables false
namespace Go.Pel
open Go.RowKit Go.Proofs

/-! ### What may be generated -/
def oddT (s : S_api_Shape) (p : List Int) : Bool := p.any fun t => decide (t < 0) || decide (t ≥ s.Vocab)
def chkS (s : S_api_Shape) (p : List Int) (m : Int) : Int :=
  if p.length = 0 then 90 else if oddT s p = true ∨ m < 1 then 2 else if (p.length : Int) > s.Places ∨ m - 1 > s.Places - p.length then 80 else 0
theorem gen_Check_1_eq (t : Int) (s : S_api_Shape) : gen_Check_1_p t s = some (decide (t < 0) || decide (t ≥ s.Vocab)) := by
  unfold gen_Check_1_p gen_Check_1_p_k1
  cases decide (t < 0) <;> simp
theorem gen_contains_eq (s : S_api_Shape) (p : List Int) (hn : p.length ≤ 4611686018427387904) : slices_ContainsFunc_int_int_Fgen_Check_1_p p s = some (oddT s p) := by
  unfold slices_ContainsFunc_int_int_Fgen_Check_1_p slices_IndexFunc_int_int_Fgen_Check_1_p
  rw [index_loop (fun k => Lp.ret (k : Int)) (.brk ()) p (fun t => decide (t < 0) || decide (t ≥ s.Vocab)) hn (fun k => by
    simp only [slices_IndexFunc_int_int_Fgen_Check_1_p_b2, gen_Check_1_eq, Option.bind_some])]
  unfold oddT
  cases h : p.findIdx? (fun t => decide (t < 0) || decide (t ≥ s.Vocab)) with
  | none =>
    rw [List.findIdx?_eq_none_iff] at h
    have : (p.any fun t => decide (t < 0) || decide (t ≥ s.Vocab)) = false := by rw [List.any_eq_false]; intro x hx; simp only [h x hx]; simp
    rw [this]; rfl
  | some i =>
    rw [List.findIdx?_eq_some_iff_getElem] at h
    obtain ⟨h1, h2, _⟩ := h
    have : (p.any fun t => decide (t < 0) || decide (t ≥ s.Vocab)) = true := List.any_eq_true.2 ⟨_, List.getElem_mem h1, h2⟩
    rw [this]; simp
theorem gen_Check_eq (s : S_api_Shape) (p : List Int) (m : Int) (hP : inK .i64 s.Places) (hm : inK .i64 m) (hn : p.length ≤ 140737488355328) : gen_Check s p m = some (chkS s p m) := by
  have h1 := i64K hP
  have h2 := i64K hm
  unfold gen_Check chkS
  rw [gen_contains_eq s p (by omega)]
  simp only [Option.bind_some, gen_Check_k1, gen_Check_k2]
  by_cases h0 : p.length = 0
  · simp [h0]
  · have h0' : ((p.length : Int) == 0) = false := beq_eq_false_iff_ne.2 (by omega)
    rw [h0', cond_false, if_neg h0]
    cases ho : oddT s p with
    | true => simp
    | false =>
      simp only [cond_false]
      by_cases hm1 : m < 1
      · simp [hm1]
      · have e1 : IntKind.wrap .i64 (m - 1) = m - 1 := wrapI (by omega)
        simp only [hm1, decide_false, cond_false, e1]
        by_cases hp : (p.length : Int) > s.Places
        · simp [hp]
        · have e2 : IntKind.wrap .i64 (s.Places - (p.length : Int)) = s.Places - p.length := wrapI (by omega)
          simp only [hp, decide_false, cond_false, e2]
          by_cases hq : m - 1 > s.Places - p.length
          · simp [hq]
          · simp [hq]
theorem ref09_Check_eq (s : S_api_Shape) (p : List Int) (m : Int) (hP : inK .i64 s.Places) (hm : inK .i64 m) (hn : p.length ≤ 140737488355328) : ref09_Check s p m = some (chkS s p m) := by
  have h1 := i64K hP
  have h2 := i64K hm
  unfold ref09_Check chkS
  rw [any_loop (.ret 2) (.brk ()) p (fun t => decide (t < 0) || decide (t ≥ s.Vocab)) (by omega) (fun k => by
    simp only [ref09_Check_b3, ref09_Check_k5]
    congr 1
    cases hg : getI p (k : Int) with
    | none => rfl
    | some x => simp only [Option.bind_some]; cases decide (x < 0) <;> simp)]
  show (cond _ _ ((some (if oddT s p = true then _ else _)).bind _)) = _
  by_cases h0 : p.length = 0
  · simp [h0]
  · have h0' : ((p.length : Int) == 0) = false := beq_eq_false_iff_ne.2 (by omega)
    rw [h0', cond_false, if_neg h0]
    cases ho : oddT s p with
    | true => simp
    | false =>
      simp only [Bool.false_eq_true, if_false, Option.bind_some, ref09_Check_k1, ref09_Check_k2, false_or]
      by_cases hm1 : m < 1
      · simp [hm1]
      · simp only [hm1, decide_false, cond_false, if_false]
        by_cases hp : (p.length : Int) > s.Places
        · simp [hp]
        · have e2 : IntKind.wrap .i64 (s.Places - (p.length : Int)) = s.Places - p.length := wrapI (by omega)
          have e3 : IntKind.wrap .i64 (s.Places - (p.length : Int) + 1) = s.Places - p.length + 1 := wrapI (by omega)
          simp only [hp, decide_false, cond_false, e2, e3]
          by_cases hq : m - 1 > s.Places - p.length
          · have : m > s.Places - p.length + 1 := by omega
            simp [hq, this]
          · have : ¬ m > s.Places - p.length + 1 := by omega
            simp [hq, this]

/-! ### Shapes -/
theorem weight_in_eq (a b c : Int) : weight_in a b c = some (decide (b ≤ a) && decide (a ≤ c)) := by
  unfold weight_in weight_in_k1
  by_cases h : a ≥ b
  · have : b ≤ a := h
    simp [h, this]
  · have : ¬ b ≤ a := h
    simp [h, this]
def rightS (s : S_api_Shape) : Bool :=
  decide (1 ≤ s.Layers ∧ s.Layers ≤ 16 ∧ 1 ≤ s.Heads ∧ s.Heads ≤ 16 ∧ 2 ≤ s.Width ∧ s.Width ≤ 128 ∧ Int.tmod s.Width (2 * s.Heads) = 0 ∧ 1 ≤ s.Inner ∧ s.Inner ≤ 256 ∧ 1 ≤ s.Vocab ∧ s.Vocab ≤ 512 ∧ 1 ≤ s.Places ∧ s.Places ≤ 256)
theorem weight_Right_eq (s : S_api_Shape) : weight_Right s = some (rightS s) := by
  unfold weight_Right weight_Right_k1 rightS
  simp only [weight_in_eq, Option.bind_some]
  by_cases h1 : 1 ≤ s.Layers ∧ s.Layers ≤ 16
  · by_cases h2 : 1 ≤ s.Heads ∧ s.Heads ≤ 16
    · have e : IntKind.wrap .i64 (2 * s.Heads) = 2 * s.Heads := wrapI (by omega)
      have e0 : (2 * s.Heads) ≠ 0 := by omega
      rw [e]
      simp only [guardO, e0, ne_eq, not_false_eq_true, if_true, h1.1, h1.2, h2.1, h2.2, decide_true, Bool.and_self, cond_true, true_and]
      by_cases h3 : 2 ≤ s.Width ∧ s.Width ≤ 128
      · simp only [h3.1, h3.2, decide_true, Bool.and_self, cond_true, true_and]
        by_cases h4 : Int.tmod s.Width (2 * s.Heads) = 0
        · simp only [h4, BEq.rfl, cond_true, true_and]
          by_cases h5 : 1 ≤ s.Inner ∧ s.Inner ≤ 256
          · simp only [h5.1, h5.2, decide_true, Bool.and_self, cond_true, true_and]
            by_cases h6 : 1 ≤ s.Vocab ∧ s.Vocab ≤ 512
            · simp only [h6.1, h6.2, decide_true, Bool.and_self, cond_true, true_and]
              congr 1; simp
            · have : (decide (1 ≤ s.Vocab) && decide (s.Vocab ≤ 512)) = false := by simp; omega
              rw [this, cond_false]; congr 1; simp; omega
          · have : (decide (1 ≤ s.Inner) && decide (s.Inner ≤ 256)) = false := by simp; omega
            rw [this, cond_false]; congr 1; simp; omega
        · have : (Int.tmod s.Width (2 * s.Heads) == 0) = false := by simpa using h4
          rw [this, cond_false]; congr 1; simp [h4]
      · have : (decide (2 ≤ s.Width) && decide (s.Width ≤ 128)) = false := by simp; omega
        rw [this, cond_false]; congr 1; simp; omega
    · have : (decide (1 ≤ s.Heads) && decide (s.Heads ≤ 16)) = false := by simp; omega
      simp only [h1.1, h1.2, decide_true, Bool.and_self, cond_true, this, cond_false]
      congr 1; simp; omega
  · have : (decide (1 ≤ s.Layers) && decide (s.Layers ≤ 16)) = false := by simp; omega
    rw [this, cond_false]; congr 1; simp; omega
theorem ref07_Right_eq (s : S_api_Shape) : ref07_Right s = some (rightS s) := by
  unfold ref07_Right rightS
  by_cases h1 : s.Layers < 1
  · simp only [h1, decide_true, cond_true, ref07_Right_k1]; congr 1; simp; omega
  simp only [h1, decide_false, cond_false]
  by_cases h2 : s.Layers > 16
  · simp only [h2, decide_true, cond_true, ref07_Right_k1]; congr 1; simp; omega
  simp only [h2, decide_false, cond_false]
  by_cases h3 : s.Heads < 1
  · simp only [h3, decide_true, cond_true, ref07_Right_k1]; congr 1; simp; omega
  simp only [h3, decide_false, cond_false]
  by_cases h4 : s.Heads > 16
  · simp only [h4, decide_true, cond_true, ref07_Right_k1]; congr 1; simp; omega
  simp only [h4, decide_false, cond_false]
  by_cases h5 : s.Width < 2
  · simp only [h5, decide_true, cond_true, ref07_Right_k1]; congr 1; simp; omega
  simp only [h5, decide_false, cond_false]
  by_cases h6 : s.Width > 128
  · simp only [h6, decide_true, cond_true, ref07_Right_k1]; congr 1; simp; omega
  simp only [h6, decide_false, cond_false]
  have e : IntKind.wrap .i64 (2 * s.Heads) = 2 * s.Heads := wrapI (by omega)
  have e0 : (2 * s.Heads) ≠ 0 := by omega
  rw [e]
  simp only [guardO, e0, ne_eq, not_false_eq_true, if_true]
  by_cases h7 : Int.tmod s.Width (2 * s.Heads) = 0
  · simp only [h7, bne_self_eq_false, ref07_Right_k1, cond_false, ref07_Right_k2]
    by_cases a1 : s.Inner ≥ 1 <;> by_cases a2 : s.Inner ≤ 256 <;> by_cases a3 : s.Vocab ≥ 1 <;> by_cases a4 : s.Vocab ≤ 512 <;> by_cases a5 : s.Places ≥ 1 <;> by_cases a6 : s.Places ≤ 256 <;>
      simp only [a1, a2, a3, a4, a5, a6, decide_true, decide_false, cond_true, cond_false] <;> (congr 1; first | (simp; done) | (simp; omega))
  · have : (Int.tmod s.Width (2 * s.Heads) != 0) = true := by simpa using h7
    rw [this]; simp only [ref07_Right_k1, cond_true]; congr 1; simp [h7]

/-! ### One step -/
def jdg (id : Int) (took : Bool) (c : Int) (full : Bool) : Int := if id < 0 ∨ id ≥ 1099511627776 then 2 else if took then 210 else if c ≠ 0 then c else if full then 211 else 0
def tk (d : S_admit_Desk) (id : Int) : Bool := (mget d.took id).getD false
def jA (d : S_admit_Desk) (r : S_api_Request) : Int := jdg r.ID (tk d r.ID) (chkS d.s r.Prompt r.Most) (decide ((d.row.length : Int) ≥ d.room))
def jR (q : S_ref21_Desk) (r : S_api_Request) : Int := jdg r.ID (q.Ids.any fun x => x == r.ID) (chkS q.S r.Prompt r.Most) (decide ((q.L.length : Int) ≥ q.Room))
theorem judgeA (d : S_admit_Desk) (r : S_api_Request) (hP : inK .i64 d.s.Places) (hm : inK .i64 r.Most) (hn : r.Prompt.length ≤ 140737488355328) : admit_Desk_Judge_vvvvvvvom d r = some (jA d r) := by
  unfold admit_Desk_Judge_vvvvvvvom admit_Desk_Judge_vvvvvvvom_k1 jA jdg tk
  simp only [gen_Check_eq d.s r.Prompt r.Most hP hm hn, Option.bind_some]
  by_cases h1 : r.ID < 0
  · simp [h1]
  · simp only [h1, decide_false, cond_false, false_or]
    by_cases h2 : r.ID ≥ 1099511627776
    · simp [h2]
    · simp only [h2, decide_false, cond_false, if_false]
      cases (mget d.took r.ID).getD false with
      | true => simp
      | false =>
        simp only [cond_false, Bool.false_eq_true, if_false]
        by_cases h3 : chkS d.s r.Prompt r.Most = 0
        · rw [h3]; by_cases h4 : (d.row.length : Int) ≥ d.room <;> simp [h4]
        · have : (chkS d.s r.Prompt r.Most != 0) = true := by simpa using h3
          simp [h3, this]
theorem tookR (q : S_ref21_Desk) (id : Int) (hn : q.Ids.length ≤ 4611686018427387904) : ref21_Desk_Took_vvvvvvvoo q id = some (q.Ids.any fun x => x == id) := by
  unfold ref21_Desk_Took_vvvvvvvoo
  rw [any_loop (.ret true) (.brk ()) q.Ids (fun x => x == id) hn (fun k => rfl)]
  cases q.Ids.any fun x => x == id <;> rfl
theorem judgeR (q : S_ref21_Desk) (r : S_api_Request) (hP : inK .i64 q.S.Places) (hm : inK .i64 r.Most) (hn : r.Prompt.length ≤ 140737488355328) (hi : q.Ids.length ≤ 4611686018427387904) : ref21_Desk_Judge_vvvvvvvoo q r = some (jR q r) := by
  unfold ref21_Desk_Judge_vvvvvvvoo ref21_Desk_Judge_vvvvvvvoo_k1 jR jdg
  simp only [ref09_Check_eq q.S r.Prompt r.Most hP hm hn, tookR q r.ID hi, Option.bind_some]
  by_cases h1 : r.ID < 0
  · simp [h1]
  · simp only [h1, decide_false, cond_false, false_or]
    by_cases h2 : r.ID ≥ 1099511627776
    · simp [h2]
    · simp only [h2, decide_false, cond_false, if_false]
      cases q.Ids.any fun x => x == r.ID with
      | true => simp
      | false =>
        simp only [cond_false, Bool.false_eq_true, if_false]
        by_cases h3 : chkS q.S r.Prompt r.Most = 0
        · rw [h3]; by_cases h4 : (q.L.length : Int) ≥ q.Room <;> simp [h4]
        · have : (chkS q.S r.Prompt r.Most != 0) = true := by simpa using h3
          simp [h3, this]

/-- What both know of each other. -/
structure Same (n : Nat) (q : S_ref21_Desk) (d : S_admit_Desk) : Prop where
  s : d.s = q.S
  room : d.room = q.Room
  row : d.row = q.L
  took : ∀ id, tk d id = q.Ids.any fun x => x == id
  places : inK .i64 q.S.Places
  roomy : 0 ≤ q.Room ∧ q.Room ≤ 4096
  len : (q.L.length : Int) ≤ q.Room
  ids : q.Ids.length ≤ n
theorem Same.judge {n q d} (h : Same n q d) (r : S_api_Request) : jA d r = jR q r := by
  unfold jA jR; rw [h.s, h.room, h.row, h.took]
def subA (d : S_admit_Desk) (r : S_api_Request) : S_admit_Desk := if jA d r = 0 then ⟨d.s, d.room, d.row ++ [r], mput d.took r.ID true⟩ else d
def subR (q : S_ref21_Desk) (r : S_api_Request) : S_ref21_Desk := if jR q r = 0 then ⟨q.S, q.Room, q.L ++ [r], q.Ids ++ [r.ID]⟩ else q
theorem jR_room {q r} (h : jR q r = 0) : (q.L.length : Int) < q.Room := by
  unfold jR jdg at h
  split at h; · cases h
  split at h; · cases h
  split at h; · exact absurd h ‹_›
  split at h
  · cases h
  · rename_i h4; simpa using h4
theorem Same.sub {n q d} (h : Same n q d) (r : S_api_Request) : Same (n + 1) (subR q r) (subA d r) := by
  unfold subR subA
  rw [h.judge]
  split
  · rename_i h0
    have hr := jR_room h0
    refine ⟨h.s, h.room, by rw [h.row], fun id => ?_, h.places, h.roomy, ?_, ?_⟩
    · have := h.took id
      unfold tk at this ⊢
      simp only [mget_mput, List.any_append, List.any_cons, List.any_nil, Bool.or_false]
      by_cases e : id = r.ID
      · subst e; simp
      · have e2 : (r.ID == id) = false := by simpa using fun x => e x.symm
        rw [if_neg e, this, e2, Bool.or_false]
    · simp only [List.length_append, List.length_singleton]; omega
    · have := h.ids
      simp only [List.length_append, List.length_singleton]; omega
  · exact ⟨h.s, h.room, h.row, h.took, h.places, h.roomy, h.len, Nat.le_succ_of_le h.ids⟩
theorem submitA_step (d : S_admit_Desk) (rs : List S_api_Request) (out : List Int) (k : Nat) (hk : k < rs.length) (hP : inK .i64 d.s.Places) (hm : inK .i64 rs[k].Most) (hn : rs[k].Prompt.length ≤ 274877906944) (hrow : d.row.length ≤ 4096) (hout : out.length ≤ 1000) (hk2 : k ≤ 1000) :
    admit_Desk_Submit_vvvvvvvom_b2 rs out (k : Int) d = some (.inl (out ++ [jA d rs[k]], ((k + 1 : Nat) : Int), subA d rs[k])) := by
  have hk' : ((k : Int) < (rs.length : Int)) := by omega
  unfold admit_Desk_Submit_vvvvvvvom_b2
  simp only [hk', decide_true, cond_true, getI_lt hk, Option.bind_some]
  rw [judgeA d _ hP hm (by omega)]
  simp only [Option.bind_some]
  have e1 : IntKind.wrap .i64 ((k : Int) + 1) = ((k + 1 : Nat) : Int) := by rw [wrapI (by omega)]; simp
  have e2 : app out [jA d rs[k]] = some (out ++ [jA d rs[k]]) := app_of (by simp only [List.length_singleton]; unfold lim; omega)
  unfold subA
  by_cases h0 : jA d rs[k] = 0
  · rw [h0] at e2 ⊢
    have e3 : app d.row [rs[k]] = some (d.row ++ [rs[k]]) := app_of (by simp only [List.length_singleton]; unfold lim; omega)
    simp only [BEq.rfl, cond_true, slices_Clone_int_int, app_nil hn, Option.bind_some, admit_Desk_Submit_vvvvvvvom_k5, admit_set_int_put_m, admit_Desk_Submit_vvvvvvvom_k4, e1, e2, if_true]
    have e4 : (⟨rs[k].ID, rs[k].Most, rs[k].Prompt⟩ : S_api_Request) = rs[k] := rfl
    rw [e4, e3]
    rfl
  · have : (jA d rs[k] == 0) = false := by simpa using h0
    rw [this, cond_false, if_neg h0]
    simp only [admit_Desk_Submit_vvvvvvvom_k4, e1, e2, Option.bind_some]
theorem submitA_end (d : S_admit_Desk) (rs : List S_api_Request) (out : List Int) : admit_Desk_Submit_vvvvvvvom_b2 rs out (rs.length : Int) d = some (.inr (out, d)) := by
  unfold admit_Desk_Submit_vvvvvvvom_b2; simp
theorem submitA (d : S_admit_Desk) (r : S_api_Request) (hP : inK .i64 d.s.Places) (hm : inK .i64 r.Most) (hn : r.Prompt.length ≤ 274877906944) (hrow : d.row.length ≤ 4096) : admit_Desk_Submit_vvvvvvvom d [r] = some ([jA d r], subA d r) := by
  unfold admit_Desk_Submit_vvvvvvvom
  have h1 := submitA_step d [r] [] 0 (by simp) hP hm hn hrow (by simp) (by omega)
  have h2 := submitA_end (subA d r) [r] ([] ++ [jA d r])
  rw [loopO_next (s' := ([] ++ [jA d r], ((1 : Nat) : Int), subA d r)) (by exact h1), loopO_end (x := ([jA d r], subA d r)) (by exact h2)]
  rfl
theorem submitA2 (d : S_admit_Desk) (r r2 : S_api_Request) (hP : inK .i64 d.s.Places) (hm : inK .i64 r.Most) (hn : r.Prompt.length ≤ 274877906944) (hm2 : inK .i64 r2.Most) (hn2 : r2.Prompt.length ≤ 274877906944) (hrow : d.row.length ≤ 4095) :
    admit_Desk_Submit_vvvvvvvom d [r, r2] = some ([jA d r, jA (subA d r) r2], subA (subA d r) r2) := by
  unfold admit_Desk_Submit_vvvvvvvom
  have e0 : (subA d r).s = d.s := by unfold subA; split <;> rfl
  have e1 : (subA d r).row.length ≤ 4096 := by unfold subA; split <;> first | (simp only [List.length_append, List.length_singleton]; omega) | omega
  have h1 := submitA_step d [r, r2] [] 0 (by simp) hP hm hn (by omega) (by simp) (by omega)
  have h2 := submitA_step (subA d r) [r, r2] ([] ++ [jA d r]) 1 (by simp) (by rw [e0]; exact hP) hm2 hn2 e1 (by simp) (by omega)
  have h3 := submitA_end (subA (subA d r) r2) [r, r2] ([] ++ [jA d r] ++ [jA (subA d r) r2])
  rw [loopO_next (s' := ([] ++ [jA d r], ((1 : Nat) : Int), subA d r)) (by exact h1), loopO_next (s' := ([] ++ [jA d r] ++ [jA (subA d r) r2], ((2 : Nat) : Int), subA (subA d r) r2)) (by exact h2), loopO_end (x := ([jA d r, jA (subA d r) r2], subA (subA d r) r2)) (by exact h3)]
  rfl
theorem submitR (q : S_ref21_Desk) (r : S_api_Request) (hP : inK .i64 q.S.Places) (hm : inK .i64 r.Most) (hn : r.Prompt.length ≤ 274877906944) (hrow : q.L.length ≤ 4096) (hi : q.Ids.length ≤ 1000) : ref21_Desk_Submit_vvvvvvvoo q r = some (jR q r, subR q r) := by
  unfold ref21_Desk_Submit_vvvvvvvoo
  rw [judgeR q r hP hm (by omega) (by omega)]
  simp only [Option.bind_some]
  unfold subR
  by_cases h0 : jR q r = 0
  · rw [h0]
    have e3 : app q.L [r] = some (q.L ++ [r]) := app_of (by simp only [List.length_singleton]; unfold lim; omega)
    have e4 : app q.Ids [r.ID] = some (q.Ids ++ [r.ID]) := app_of (by simp only [List.length_singleton]; unfold lim; omega)
    simp only [BEq.rfl, cond_true, app_nil hn, Option.bind_some, if_true, ref21_Desk_Submit_vvvvvvvoo_k2, ref21_Desk_Submit_vvvvvvvoo_k1]
    have e5 : (⟨r.ID, r.Most, r.Prompt⟩ : S_api_Request) = r := rfl
    rw [e5, e3, Option.bind_some, e4]
    rfl
  · have : (jR q r == 0) = false := by simpa using h0
    rw [this, cond_false, if_neg h0]
    rfl

/-! ### Take, Cancel -/
theorem takeA (d : S_admit_Desk) (hrow : d.row.length ≤ 4096) : admit_Desk_Take_vvvvvvvom d = some (match d.row with | [] => (⟨0, 0, []⟩, false, d) | x :: xs => (x, true, ⟨d.s, d.room, xs, d.took⟩)) := by
  unfold admit_Desk_Take_vvvvvvvom
  cases hr : d.row with
  | nil => simp
  | cons x xs =>
    rw [hr] at hrow
    have e1 : (((x :: xs).length : Int) == 0) = false := by simp; omega
    rw [e1, cond_false]
    have e2 : getI (x :: xs) 0 = some x := by simp [getI]
    simp only [e2, Option.bind_some, slices_Delete_api_Request_api_Request_w]
    have g1 : (0 : Int) ≤ 0 ∧ (0 : Int) ≤ 1 ∧ (1 : Int) ≤ ((x :: xs).length : Int) := by simp; omega
    have e3 : subL (x :: xs) 0 0 = some [] := by simp [subL]; omega
    have g2 : (0 : Int) ≤ 1 ∧ (1 : Int) ≤ ((x :: xs).length : Int) := by simp; omega
    have g3 : ((0 : Int) ≤ 1 ∧ (1 : Int) ≤ ((x :: xs).length : Int)) ∧ (x :: xs).length ≤ lim := ⟨g2, by unfold lim; omega⟩
    have g4 : (([] ++ List.drop (Int.toNat 1) (x :: xs)).length : Int) ≤ ((x :: xs).length : Int) ∧ ((x :: xs).length : Int) ≤ ((x :: xs).length : Int) := by simp; omega
    simp only [guardO, g1, and_self, if_true, e3, Option.bind_some, g3]
    rw [if_pos g4]; rfl
theorem takeR (q : S_ref21_Desk) (hrow : q.L.length ≤ 4096) : ref21_Desk_Take_vvvvvvvoo q = some (match q.L with | [] => (⟨0, 0, []⟩, false, q) | x :: xs => (x, true, ⟨q.S, q.Room, xs, q.Ids⟩)) := by
  unfold ref21_Desk_Take_vvvvvvvoo
  cases hr : q.L with
  | nil => simp
  | cons x xs =>
    rw [hr] at hrow
    have e1 : (((x :: xs).length : Int) == 0) = false := by simp; omega
    rw [e1, cond_false]
    have e2 : getI (x :: xs) 0 = some x := by simp [getI]
    have e3 : subL (x :: xs) 1 ((x :: xs).length : Int) = some xs := by
      unfold subL
      rw [if_pos (by simp; omega)]
      simp
    have e4 : app ([] : List S_api_Request) xs = some xs := app_nil (by unfold lim; simp at hrow; omega)
    simp only [e2, e3, e4, Option.bind_some]
theorem contains1 (id x : Int) : slices_Contains_int_int [id] x = some (x == id) := by
  unfold slices_Contains_int_int slices_Index_int_int
  rw [index_loop (fun k => Lp.ret (k : Int)) (.brk ()) [id] (fun y => x == y) (by simp) (fun k => rfl)]
  cases h : x == id <;> simp [List.findIdx?_cons, h, slices_Index_int_int_k1]
theorem cancelA_1 (r : S_api_Request) (id : Int) : admit_Desk_Cancel_1_p r [id] = some (r.ID == id) := by
  unfold admit_Desk_Cancel_1_p; rw [contains1]; rfl
theorem deleteA (l : List S_api_Request) (id : Int) (hl : l.length ≤ 4096) : slices_DeleteFunc_api_Request_api_Request_w_Fadmit_Desk_Cancel_1_p l [id] = some (l.filter fun r => !(r.ID == id)) := by
  unfold slices_DeleteFunc_api_Request_api_Request_w_Fadmit_Desk_Cancel_1_p slices_IndexFunc_api_Request_api_Request_Fadmit_Desk_Cancel_1_p
  rw [index_loop (fun k => Lp.ret (k : Int)) (.brk ()) l (fun r => r.ID == id) (by omega) (fun k => by simp only [slices_IndexFunc_api_Request_api_Request_Fadmit_Desk_Cancel_1_p_b2, cancelA_1, Option.bind_some])]
  cases h : l.findIdx? (fun r => r.ID == id) with
  | none =>
    rw [List.findIdx?_eq_none_iff] at h
    have : l.filter (fun r => !(r.ID == id)) = l := by
      rw [List.filter_eq_self]; intro x hx; simp only [h x hx]; rfl
    rw [this]; rfl
  | some i =>
    rw [List.findIdx?_eq_some_iff_getElem] at h
    obtain ⟨h1, h2, h3⟩ := h
    have e1 : ((i : Int) == -1) = false := beq_eq_false_iff_ne.2 (by omega)
    simp only [Option.bind_some, e1, cond_false]
    have e2 : IntKind.wrap .i64 ((i : Int) + 1) = ((i + 1 : Nat) : Int) := by rw [wrapI (by omega)]; simp
    rw [e2]
    obtain ⟨xs, j, hx1, hx2, hx3, hx4⟩ := delete_loop l (fun r => r.ID == id) (by omega) (body := fun s => slices_DeleteFunc_api_Request_api_Request_w_Fadmit_Desk_Cancel_1_p_b2 [id] s.1 s.2.1 s.2.2) (fun xs i k => by
      simp only [slices_DeleteFunc_api_Request_api_Request_w_Fadmit_Desk_Cancel_1_p_b2, slices_DeleteFunc_api_Request_api_Request_w_Fadmit_Desk_Cancel_1_p_k4, cancelA_1, Option.bind_some]) i h1 (fun j hj x hx => by
        have hjl : j < l.length := (List.getElem?_eq_some_iff.1 hx).1
        have := h3 j hj
        rw [List.getElem?_eq_getElem hjl] at hx
        cases hx
        simpa using this) h2
    rw [hx1]
    simp only [Option.bind_some, slices_DeleteFunc_api_Request_api_Request_w_Fadmit_Desk_Cancel_1_p_k1, guardO]
    rw [if_pos (by omega)]
    have e3 : subL (List.take (Int.toNat (j : Int)) xs ++ List.replicate (xs.length - Int.toNat (j : Int)) (⟨0, 0, ([] : List Int)⟩ : S_api_Request)) 0 (j : Int) = some (xs.take j) := by
      unfold subL
      rw [if_pos (by simp; omega)]
      simp
      rw [List.take_append_of_le_length (by simp; omega), List.take_take, Nat.min_self]
    rw [e3, hx3]
    rfl
theorem cancelA (d : S_admit_Desk) (id : Int) (hl : d.row.length ≤ 4096) : admit_Desk_Cancel_vvvvvvvom d [id] = some ((d.row.length : Int) - ((d.row.filter fun r => !(r.ID == id)).length : Int), ⟨d.s, d.room, d.row.filter fun r => !(r.ID == id), d.took⟩) := by
  unfold admit_Desk_Cancel_vvvvvvvom
  rw [deleteA d.row id hl]
  have := List.length_filter_le (fun r : S_api_Request => !(r.ID == id)) d.row
  simp only [Option.bind_some]
  rw [wrapI (by omega)]
theorem cancelR (q : S_ref21_Desk) (id : Int) (hl : q.L.length ≤ 4096) : ref21_Desk_Cancel_vvvvvvvoo q id = some ((q.L.length : Int) - ((q.L.filter fun r => !(r.ID == id)).length : Int), ⟨q.S, q.Room, q.L.filter fun r => !(r.ID == id), q.Ids⟩) := by
  unfold ref21_Desk_Cancel_vvvvvvvoo
  have key := loopO_run (body := fun s => ref21_Desk_Cancel_vvvvvvvoo_b2 id s.1 s.2.1 s.2.2) (fun s => ∃ k : Nat, s = ((q.L.take k).filter (fun r => !(r.ID == id)), (k : Int), q.L) ∧ k ≤ q.L.length) (fun s => q.L.length - s.2.1.toNat)
    (fun r => r = (q.L.filter (fun r => !(r.ID == id)), q.L)) ?_ (([] : List S_api_Request), 0, q.L) ⟨0, rfl, Nat.zero_le _⟩
  · obtain ⟨x, h1, rfl⟩ := key
    rw [h1]
    have := List.length_filter_le (fun r : S_api_Request => !(r.ID == id)) q.L
    simp only [Option.bind_some, ref21_Desk_Cancel_vvvvvvvoo_k1]
    rw [wrapI (by omega)]
  · rintro s ⟨k, rfl, hk⟩
    by_cases hkn : k = q.L.length
    · subst hkn
      exact .inr ⟨(q.L.filter (fun r => !(r.ID == id)), q.L), by simp [ref21_Desk_Cancel_vvvvvvvoo_b2], rfl⟩
    · have hlt : k < q.L.length := by omega
      have hlt' : ((k : Int) < (q.L.length : Int)) := by omega
      have hfl := List.length_filter_le (fun r : S_api_Request => !(r.ID == id)) (q.L.take k)
      have hfl2 : (q.L.take k).length = k := by rw [List.length_take]; omega
      left
      refine ⟨((q.L.take (k + 1)).filter (fun r => !(r.ID == id)), ((k + 1 : Nat) : Int), q.L), ?_, ⟨k + 1, rfl, by omega⟩, by simp; omega⟩
      have e1 : IntKind.wrap .i64 ((k : Int) + 1) = ((k + 1 : Nat) : Int) := by rw [wrapI (by omega)]; simp
      simp only [ref21_Desk_Cancel_vvvvvvvoo_b2, ref21_Desk_Cancel_vvvvvvvoo_k4, hlt', decide_true, cond_true, getI_lt hlt, Option.bind_some, e1]
      rw [List.take_succ_eq_append_getElem hlt, List.filter_append]
      cases hp : q.L[k].ID == id with
      | true =>
        have : (q.L[k].ID != id) = false := by simp [bne, hp]
        simp [this, hp]
      | false =>
        have : (q.L[k].ID != id) = true := by simp [bne, hp]
        rw [this, cond_true, app_of (by simp only [List.length_singleton]; unfold lim; omega)]
        simp [hp]
theorem ints_eq (a b : List Int) (hn : a.length ≤ 4611686018427387904) : ref09_Ints a b = some (decide (a = b)) := by
  unfold ref09_Ints
  by_cases hl : a.length = b.length
  · have : ((a.length : Int) != (b.length : Int)) = false := by simp [hl]
    rw [this, cond_false, eq_loop (.ret false) (.brk ()) a b hl hn (fun k => by
      simp only [ref09_Ints_b2]
      congr 1)]
    by_cases h : a = b <;> simp [h, ref09_Ints_k1]
  · have : ((a.length : Int) != (b.length : Int)) = true := by simp; omega
    have h2 : ¬ a = b := fun e => hl (by rw [e])
    rw [this, cond_true]; simp [h2]
theorem same_eq (x : S_api_Request) (hn : x.Prompt.length ≤ 4611686018427387904) : law21_same x x = some true := by
  unfold law21_same law21_same_k1; simp [ints_eq _ _ hn]

/-! ### The whole -/
theorem newA (s : S_api_Shape) (room : Int) : admit_New s room = some (if rightS s = true then (if room < 0 ∨ room > 4096 then (none, 2) else (some ⟨s, room, [], []⟩, 0)) else (none, 30)) := by
  unfold admit_New admit_New_k1
  rw [weight_Right_eq]
  cases rightS s with
  | false => simp
  | true =>
    simp only [Option.bind_some, Bool.not_true, cond_false, if_true]
    by_cases h1 : room < 0
    · simp [h1]
    · by_cases h2 : room > 4096 <;> simp [h1, h2]
theorem rightS_places {s : S_api_Shape} (h : rightS s = true) : inK .i64 s.Places := by
  unfold rightS at h
  have := of_decide_eq_true h
  exact inK64 (by omega)
theorem awake21 : law21_awake = some true := by
  have hr : rightS ⟨1, 4, 2, 3, 5, 8⟩ = true := by decide
  have hp : inK .i64 (8 : Int) := inK64 (by decide)
  have h2 : inK .i64 (2 : Int) := inK64 (by decide)
  unfold law21_awake law21_shape
  simp only [Option.bind_some, newA, hr, if_true]
  rw [if_neg (by decide)]
  simp only [Option.elim_some, law21_awake_k2, law21_asks, Option.bind_some]
  rw [submitA2 _ _ _ (by exact hp) (by exact h2) (by simp) (by exact h2) (by simp) (by simp)]
  have a1 : jA ⟨⟨1, 4, 2, 3, 5, 8⟩, 1, [], []⟩ ⟨5, 2, [1]⟩ = 0 := by decide
  have s1 : subA ⟨⟨1, 4, 2, 3, 5, 8⟩, 1, [], []⟩ ⟨5, 2, [1]⟩ = ⟨⟨1, 4, 2, 3, 5, 8⟩, 1, [⟨5, 2, [1]⟩], [(5, true)]⟩ := by unfold subA; rw [a1]; rfl
  have a2 : jA ⟨⟨1, 4, 2, 3, 5, 8⟩, 1, [⟨5, 2, [1]⟩], [(5, true)]⟩ ⟨6, 2, [1]⟩ = 211 := by decide
  have s2 : subA ⟨⟨1, 4, 2, 3, 5, 8⟩, 1, [⟨5, 2, [1]⟩], [(5, true)]⟩ ⟨6, 2, [1]⟩ = ⟨⟨1, 4, 2, 3, 5, 8⟩, 1, [⟨5, 2, [1]⟩], [(5, true)]⟩ := by unfold subA; rw [a2]; rfl
  simp only [a1, s1, a2, s2, Option.bind_some]
  rw [takeA _ (by simp)]
  simp only [Option.bind_some]
  rw [submitA2 _ _ _ (by exact hp) (by exact h2) (by simp) (by exact h2) (by simp) (by simp)]
  have a3 : jA ⟨⟨1, 4, 2, 3, 5, 8⟩, 1, [], [(5, true)]⟩ ⟨5, 2, [1]⟩ = 210 := by decide
  have s3 : subA ⟨⟨1, 4, 2, 3, 5, 8⟩, 1, [], [(5, true)]⟩ ⟨5, 2, [1]⟩ = ⟨⟨1, 4, 2, 3, 5, 8⟩, 1, [], [(5, true)]⟩ := by unfold subA; rw [a3]; rfl
  have a4 : jA ⟨⟨1, 4, 2, 3, 5, 8⟩, 1, [], [(5, true)]⟩ ⟨6, 2, [1]⟩ = 0 := by decide
  simp only [a3, s3, a4, Option.bind_some]
  rfl
theorem overwrite (xs : List Int) (hn : xs.length ≤ 4611686018427387904) : ∃ ys, loopO (fun s : Int × List Int => law21_AdmitActs_b21 s.1 s.2) (0, xs) = some ys := by
  have key := loopO_run (body := fun s : Int × List Int => law21_AdmitActs_b21 s.1 s.2) (fun s => ∃ k : Nat, s.1 = (k : Int) ∧ k ≤ s.2.length ∧ s.2.length = xs.length) (fun s => s.2.length - s.1.toNat) (fun _ => True) ?_ (0, xs) ⟨0, rfl, Nat.zero_le _, rfl⟩
  · obtain ⟨x, h, _⟩ := key; exact ⟨x, h⟩
  · rintro ⟨i, ys⟩ ⟨k, hi, hk, hl⟩
    simp only at hi hk hl
    subst hi
    by_cases hkn : k = ys.length
    · exact .inr ⟨ys, by simp [law21_AdmitActs_b21, hkn], trivial⟩
    · have hlt : k < ys.length := by omega
      have hlt' : ((k : Int) < (ys.length : Int)) := by omega
      have e1 : IntKind.wrap .i64 ((k : Int) + 1) = ((k + 1 : Nat) : Int) := by rw [wrapI (by omega)]; simp
      refine .inl ⟨(((k + 1 : Nat) : Int), List.set ys (Int.toNat k) (-1)), by simp only [law21_AdmitActs_b21, hlt', decide_true, cond_true, getI_lt hlt, Option.bind_some, e1], ⟨k + 1, rfl, by simp; omega, by simpa using hl⟩, ?_⟩
      simp; omega
theorem Same.take {n q d} (h : Same n q d) {x xs} (hl : q.L = x :: xs) : Same n ⟨q.S, q.Room, xs, q.Ids⟩ ⟨d.s, d.room, xs, d.took⟩ := by
  have := h.len
  rw [hl] at this
  exact ⟨h.s, h.room, rfl, h.took, h.places, h.roomy, by simp at this ⊢; omega, h.ids⟩
theorem Same.cancel {n q d} (h : Same n q d) (id : Int) : Same n ⟨q.S, q.Room, q.L.filter fun r => !(r.ID == id), q.Ids⟩ ⟨d.s, d.room, d.row.filter fun r => !(r.ID == id), d.took⟩ := by
  have := List.length_filter_le (fun r : S_api_Request => !(r.ID == id)) q.L
  have h2 := h.len
  exact ⟨h.s, h.room, by rw [h.row], h.took, h.places, h.roomy, by simp only; omega, h.ids⟩
theorem Same.small {n q d} (h : Same n q d) : q.L.length ≤ 4096 ∧ d.row.length ≤ 4096 := by
  have h1 := h.len
  have h2 := h.roomy
  rw [h.row]; omega
/-- Requests that wait are small. -/
def small (q : S_ref21_Desk) : Prop := ∀ r ∈ q.L, r.Prompt.length ≤ 300
/-- What both tell, once more. -/
theorem tells (room : Int) (k : Nat) (hk : k ≤ 80) (r : S_law21_Act) {n : Nat} {q : S_ref21_Desk} {d : S_admit_Desk} (h : Same n q d) (hn : n ≤ 200) (hr : q.Room = room) : law21_AdmitActs_k17 room (k : Int) r q d = some (.inl (((k + 1 : Nat) : Int), q, d)) := by
  unfold law21_AdmitActs_k17
  have e0 : ((d.row.length : Int) != (q.L.length : Int)) = false := by rw [h.row]; simp
  have e1 : decide ((d.row.length : Int) > room) = false := by
    have := h.len
    rw [h.row]; simp; omega
  have e2 : IntKind.wrap .i64 ((k : Int) + 1) = ((k + 1 : Nat) : Int) := by rw [wrapI (by omega)]; simp
  have h3 := h.ids
  simp only [admit_Desk_Len_vvvvvvvom, Option.bind_some, e0, cond_false, e1, admit_Desk_Took_vvvvvvvom]
  rw [tookR q r.R.ID (by omega)]
  have e3 := h.took r.R.ID
  unfold tk at e3
  rw [e3]
  simp only [Option.bind_some, bne_self_eq_false, law21_AdmitActs_k18, cond_false, law21_AdmitActs_k16, e2]
theorem act_step (room : Int) (acts : List S_law21_Act) (hacts : acts.length ≤ 80) (k : Nat) (hk : k < acts.length) (hw : wf_law21_Act acts[k]) {n : Nat} {q : S_ref21_Desk} {d : S_admit_Desk} (h : Same n q d) (hs : small q) (hn : n ≤ 100) (hr : q.Room = room) :
    law21_AdmitActs_b14 room acts (k : Int) q d = some (.inr (.ret true)) ∨ ∃ q' d', law21_AdmitActs_b14 room acts (k : Int) q d = some (.inl (((k + 1 : Nat) : Int), q', d')) ∧ Same (n + 1) q' d' ∧ small q' ∧ q'.Room = room := by
  have hk' : ((k : Int) < (acts.length : Int)) := by omega
  obtain ⟨w1, w2, w3, w4, w5⟩ := hw
  unfold law21_AdmitActs_b14
  simp only [hk', decide_true, cond_true, getI_lt hk, Option.bind_some]
  generalize acts[k] = a at *
  by_cases hp : ((a.R.Prompt.length : Int) > 300)
  · left; simp [hp]
  right
  have hp' : a.R.Prompt.length ≤ 300 := by omega
  have hsm := h.small
  have hids := h.ids
  have up : Same (n + 1) q d := ⟨h.s, h.room, h.row, h.took, h.places, h.roomy, h.len, Nat.le_succ_of_le h.ids⟩
  simp only [hp, decide_false, cond_false]
  by_cases c0 : a.Kind = 0
  · have e0 : (a.Kind == 0) = true := by simpa using c0
    rw [e0, cond_true, app_nil (by unfold lim; omega)]
    simp only [Option.bind_some, law21_AdmitActs_k19]
    have e1 : (⟨a.R.ID, a.R.Most, a.R.Prompt⟩ : S_api_Request) = a.R := rfl
    have hPl : inK .i64 d.s.Places := by rw [h.s]; exact h.places
    rw [e1, submitA d a.R hPl w3 (by omega) (by omega)]
    simp only [Option.bind_some]
    have e2 : ((([jA d a.R] : List Int).length : Int) != 1) = false := by simp
    have e3 : getI [jA d a.R] 0 = some (jA d a.R) := by simp [getI]
    rw [e2, cond_false, e3]
    simp only [Option.bind_some]
    rw [submitR q a.R h.places w3 (by omega) (by omega) (by omega)]
    simp only [Option.bind_some, h.judge, bne_self_eq_false, law21_AdmitActs_k20, cond_false]
    obtain ⟨ys, hys⟩ := overwrite a.R.Prompt (by omega)
    rw [hys]
    simp only [Option.bind_some]
    have hs1 := h.sub a.R
    refine ⟨subR q a.R, subA d a.R, tells room k (by omega) a hs1 (by omega) ?_, hs1, ?_, ?_⟩
    · unfold subR; split <;> exact hr
    · unfold subR
      split
      · intro r hr'
        rcases List.mem_append.1 hr' with hr' | hr'
        · exact hs r hr'
        · rw [List.mem_singleton.1 hr']; exact hp'
      · exact hs
    · unfold subR; split <;> exact hr
  have e0 : (a.Kind == 0) = false := by simpa using c0
  rw [e0, cond_false]
  by_cases c1 : a.Kind = 1
  · have e1 : (a.Kind == 1) = true := by simpa using c1
    rw [e1, cond_true, takeA d hsm.2, Option.bind_some, takeR q hsm.1, Option.bind_some, h.row]
    cases hl : q.L with
    | nil =>
      simp only [bne_self_eq_false, cond_false]
      rw [same_eq _ (by simp)]
      simp only [Option.bind_some, Bool.not_true, law21_AdmitActs_k23, cond_false]
      exact ⟨q, d, tells room k (by omega) a h (by omega) hr, up, hs, hr⟩
    | cons x xs =>
      simp only [bne_self_eq_false, cond_false]
      have hx := hs x (by rw [hl]; simp)
      rw [same_eq _ (by omega)]
      simp only [Option.bind_some, Bool.not_true, law21_AdmitActs_k23, cond_false]
      have h2 := up.take hl
      exact ⟨_, _, tells room k (by omega) a h2 (by omega) hr, h2, fun r hr' => hs r (by rw [hl]; exact List.mem_cons_of_mem _ hr'), hr⟩
  have e1 : (a.Kind == 1) = false := by simpa using c1
  rw [e1, cond_false]
  by_cases c2 : a.Kind = 2
  · have e2 : (a.Kind == 2) = true := by simpa using c2
    rw [e2, cond_true, cancelA d _ hsm.2, Option.bind_some, cancelR q _ hsm.1, Option.bind_some]
    have e3 : (((d.row.length : Int) - ((d.row.filter fun r => !(r.ID == a.R.ID)).length : Int)) != ((q.L.length : Int) - ((q.L.filter fun r => !(r.ID == a.R.ID)).length : Int))) = false := by rw [h.row]; simp
    simp only [e3, law21_AdmitActs_k24, cond_false]
    have h2 := up.cancel a.R.ID
    exact ⟨_, _, tells room k (by omega) a h2 (by omega) hr, h2, fun r hr' => hs r (List.mem_filter.1 hr').1, hr⟩
  have e2 : (a.Kind == 2) = false := by simpa using c2
  rw [e2, cond_false]
  by_cases c3 : a.Kind = 3
  · have e3 : (a.Kind == 3) = true := by simpa using c3
    have hPl : inK .i64 d.s.Places := by rw [h.s]; exact h.places
    rw [e3, cond_true, judgeA d a.R hPl w3 (by omega), Option.bind_some, judgeR q a.R h.places w3 (by omega) (by omega), Option.bind_some, h.judge]
    simp only [bne_self_eq_false, law21_AdmitActs_k25, cond_false]
    exact ⟨_, _, tells room k (by omega) a h (by omega) hr, up, hs, hr⟩
  have e3 : (a.Kind == 3) = false := by simpa using c3
  rw [e3, cond_false]
  exact ⟨_, _, tells room k (by omega) a h (by omega) hr, up, hs, hr⟩
theorem at_end {n : Nat} {q : S_ref21_Desk} {d : S_admit_Desk} (h : Same n q d) (hs : small q) : law21_AdmitActs_k10 q d = some true := by
  unfold law21_AdmitActs_k10
  have key := loopO_run (body := fun s => law21_AdmitActs_b11 s.1 s.2) (fun s => Same n s.1 s.2 ∧ small s.1) (fun s => s.1.L.length) (fun r => ∃ q d, r = .brk (q, d) ∧ q.L = []) ?_ (q, d) ⟨h, hs⟩
  · obtain ⟨x, h1, q', d', rfl, h2⟩ := key
    rw [h1]
    simp [h2]
  · rintro ⟨q, d⟩ ⟨h, hs⟩
    have h : Same n q d := h
    have hs : small q := hs
    have hsm := h.small
    cases hl : q.L with
    | nil =>
      right
      refine ⟨.brk (q, d), ?_, q, d, rfl, hl⟩
      simp [law21_AdmitActs_b11, admit_Desk_Len_vvvvvvvom, h.row, hl]
    | cons x xs =>
      left
      have hx := hs x (by rw [hl]; simp)
      have h2 := h.take hl
      refine ⟨(⟨q.S, q.Room, xs, q.Ids⟩, ⟨d.s, d.room, xs, d.took⟩), ?_, ⟨h2, fun r hr' => hs r (by rw [hl]; exact List.mem_cons_of_mem _ hr')⟩, by simp [hl]⟩
      have e0 : decide ((d.row.length : Int) > 0) = true := by rw [h.row, hl]; simp
      simp only [law21_AdmitActs_b11, admit_Desk_Len_vvvvvvvom, Option.bind_some, e0, cond_true]
      rw [takeA d hsm.2, Option.bind_some, takeR q hsm.1, Option.bind_some, h.row, hl]
      simp only [Bool.not_true, cond_false]
      rw [same_eq _ (by omega)]
      simp only [Option.bind_some, Bool.not_true, law21_AdmitActs_k13, cond_false]
theorem law21_AdmitActs_true (s : S_api_Shape) (room : Int) (acts : List S_law21_Act) (hs : wf_api_Shape s) (hr : inK .i64 room) (ha : wfL wf_law21_Act acts) : law21_AdmitActs s room acts = some true := by
  unfold law21_AdmitActs
  rw [awake21]
  simp only [Option.bind_some, Bool.not_true, cond_false]
  by_cases hn : ((acts.length : Int) > 80)
  · simp only [hn, decide_true, law21_AdmitActs_k1, cond_true, awake21, Option.bind_some]
  simp only [hn, decide_false, law21_AdmitActs_k1, cond_false]
  rw [newA, ref07_Right_eq]
  simp only [Option.bind_some]
  cases hR : rightS s with
  | false => simp [law21_AdmitActs_k2]
  | true =>
    simp only [if_true, Bool.not_true, cond_false]
    by_cases h1 : room < 0
    · simp [h1, law21_AdmitActs_k3, law21_AdmitActs_k4]
    by_cases h2 : room > 4096
    · simp [h1, h2, law21_AdmitActs_k3, law21_AdmitActs_k4]
    rw [if_neg (by omega)]
    simp only [Option.elim_some, h1, h2, decide_false, cond_false, law21_AdmitActs_k7, law21_AdmitActs_k9, bne_self_eq_false]
    have hS : Same 0 ⟨s, room, [], []⟩ ⟨s, room, [], []⟩ := ⟨rfl, rfl, rfl, fun id => rfl, rightS_places hR, by simp only; omega, by simp only [List.length_nil]; omega, Nat.le_refl _⟩
    have key := loopO_run (body := fun s => law21_AdmitActs_b14 room acts s.1 s.2.1 s.2.2) (fun t => ∃ k : Nat, t.1 = (k : Int) ∧ k ≤ acts.length ∧ Same k t.2.1 t.2.2 ∧ small t.2.1 ∧ t.2.1.Room = room) (fun t => acts.length - t.1.toNat)
      (fun r => r = .ret true ∨ ∃ n q d, r = .brk (q, d) ∧ Same n q d ∧ small q) ?_ (0, ⟨s, room, [], []⟩, ⟨s, room, [], []⟩) ⟨0, rfl, Nat.zero_le _, hS, fun r hr => by simp at hr, rfl⟩
    · obtain ⟨x, hx, hx2⟩ := key
      rw [hx]
      rcases hx2 with rfl | ⟨n, q, d, rfl, h3, h4⟩
      · rfl
      · exact at_end h3 h4
    · rintro ⟨i, q, d⟩ ⟨k, hi, hk, h3, h4, h5⟩
      simp only at hi h3 h4 h5
      subst hi
      by_cases hkn : k = acts.length
      · right
        exact ⟨.brk (q, d), by simp [law21_AdmitActs_b14, hkn], .inr ⟨k, q, d, rfl, h3, h4⟩⟩
      · have hlt : k < acts.length := by omega
        rcases act_step room acts (by omega) k hlt (ha.2 _ (List.getElem_mem hlt)) h3 h4 (by omega) h5 with h6 | ⟨q', d', h6, h7, h8, h9⟩
        · exact .inr ⟨_, h6, .inl rfl⟩
        · exact .inl ⟨_, h6, ⟨k + 1, rfl, by omega, h7, h8, h9⟩, by simp; omega⟩
end Go.Pel

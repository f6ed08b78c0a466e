/- What a link's functions come to, as plain functions. -/
import Derived.Test.YtnmienbmlfpdoaaPelLinkX3
import Derived.Test.YtnmienbmlfpdoaaPelLinkA
import Derived.Test.YtnmienbmlfpdoaaPelPure
set_option linter.unusedVariables false
namespace Go.Pel
open Go.RowKit Go.Proofs

/-! ### Bounds -/
structure WfB (now next : Int) (b : S_link_body) : Prop where
  seq : 1 ≤ b.seq ∧ b.seq ≤ next
  at_ : -1 ≤ b.at_ ∧ b.at_ ≤ now
  len : b.b.length ≤ 65536
structure WfL (N : Int) (l : S_link_Link) : Prop where
  nn : 0 ≤ N ∧ N ≤ 137438953472
  window : 1 ≤ l.window ∧ l.window ≤ 64
  span : 1 ≤ l.span ∧ l.span ≤ 1000
  room : 1 ≤ l.room ∧ l.room ≤ 4096
  now : 0 ≤ l.now ∧ l.now ≤ N
  next : 0 ≤ l.next ∧ l.next ≤ N
  acked : 0 ≤ l.acked ∧ l.acked ≤ l.sent
  sent : l.sent ≤ l.next
  got : 0 ≤ l.got ∧ l.got + l.early.length ≤ N
  out : (l.out.length : Int) ≤ l.room
  bodies : ∀ b ∈ l.out, WfB l.now l.next b
  sorted : l.out.Pairwise fun a b => a.seq < b.seq
  earlyLen : ∀ p ∈ l.early, p.2.length ≤ 65536
  keys : (l.early.map (·.1)).Nodup
theorem WfL.up {N M l} (h : WfL N l) (hm : N ≤ M ∧ M ≤ 137438953472) : WfL M l :=
  ⟨by have := h.nn; omega, h.window, h.span, h.room, by have := h.now; omega, by have := h.next; omega, h.acked, h.sent, by have := h.got; omega, h.out, h.bodies, h.sorted, h.earlyLen, h.keys⟩

theorem bytesClone (b : List Int) (h : b.length ≤ 65536) : bytes_Clone b = some b := by
  unfold bytes_Clone; rw [app_nil (by unfold lim; omega)]; rfl
theorem succK {k : Nat} (h : k ≤ 4611686018427387904) : IntKind.wrap .i64 ((k : Int) + 1) = ((k + 1 : Nat) : Int) := by rw [wrapI (by omega)]; simp

/-! ### New -/
def sidesR (w s r : Int) : Bool := decide (1 ≤ w ∧ w ≤ 64 ∧ 1 ≤ s ∧ s ≤ 1000 ∧ 1 ≤ r ∧ r ≤ 4096)
theorem link_in_eq (a b : Int) : link_in a b = some (decide (1 ≤ a) && decide (a ≤ b)) := by
  unfold link_in link_in_k1
  by_cases h : a ≥ 1
  · have : 1 ≤ a := h
    simp [h]
  · have : ¬ 1 ≤ a := h
    simp [h]
def newL (w s r : Int) : S_link_Link := ⟨w, s, r, 0, 0, 0, 0, 0, [], 0, [], false⟩
theorem link_New_eq (w s r : Int) : link_New w s r = some (if sidesR w s r = true then (some (newL w s r), 0) else (none, 2)) := by
  unfold link_New link_New_k1 sidesR
  simp only [link_in_eq, Option.bind_some]
  by_cases h1 : 1 ≤ w ∧ w ≤ 64
  · simp only [h1.1, h1.2, decide_true, Bool.and_self, Bool.not_true, cond_false, true_and]
    by_cases h2 : 1 ≤ s ∧ s ≤ 1000
    · simp only [h2.1, h2.2, decide_true, Bool.and_self, Bool.not_true, cond_false, true_and]
      by_cases h3 : 1 ≤ r ∧ r ≤ 4096
      · simp only [h3.1, h3.2, decide_true, Bool.and_self, Bool.not_true, cond_false, true_and]; rfl
      · have : (decide (1 ≤ r) && decide (r ≤ 4096)) = false := by rw [Bool.eq_false_iff]; simp; omega
        rw [this]; simp [h3]
    · have : (decide (1 ≤ s) && decide (s ≤ 1000)) = false := by rw [Bool.eq_false_iff]; simp; omega
      rw [this]
      have h2' : ¬ (1 ≤ s ∧ s ≤ 1000 ∧ 1 ≤ r ∧ r ≤ 4096) := by omega
      simp [h2']
  · have : (decide (1 ≤ w) && decide (w ≤ 64)) = false := by rw [Bool.eq_false_iff]; simp; omega
    rw [this]
    have h1' : ¬ (1 ≤ w ∧ w ≤ 64 ∧ 1 ≤ s ∧ s ≤ 1000 ∧ 1 ≤ r ∧ r ≤ 4096) := by omega
    simp [h1']
theorem newL_wf {w s r : Int} (h : sidesR w s r = true) : WfL 0 (newL w s r) := by
  have h' := of_decide_eq_true h
  exact ⟨by omega, ⟨h'.1, h'.2.1⟩, ⟨h'.2.2.1, h'.2.2.2.1⟩, ⟨h'.2.2.2.2.1, h'.2.2.2.2.2⟩, by simp [newL], by simp [newL], by simp [newL], by simp [newL], by simp [newL], by simp [newL]; omega, by simp [newL], by simp [newL], by simp [newL], by simp [newL]⟩

/-! ### Send -/
def numbered (n : Int) : List (List Int) → List S_link_body
  | [] => []
  | b :: bs => ⟨n + 1, -1, b⟩ :: numbered (n + 1) bs
theorem numbered_length (n : Int) (bs : List (List Int)) : (numbered n bs).length = bs.length := by
  induction bs generalizing n with
  | nil => rfl
  | cons b bs ih => simp [numbered, ih]
theorem numbered_append (n : Int) (bs : List (List Int)) (b : List Int) : numbered n (bs ++ [b]) = numbered n bs ++ [⟨n + bs.length + 1, -1, b⟩] := by
  induction bs generalizing n with
  | nil => simp [numbered]
  | cons c bs ih =>
    simp only [List.cons_append, numbered, ih, List.length_cons]
    congr 3
    simp; omega
def sendL (l : S_link_Link) (bs : List (List Int)) : S_link_Link := ⟨l.window, l.span, l.room, l.epoch, l.now, l.next + bs.length, l.acked, l.sent, l.out ++ numbered l.next bs, l.got, l.early, l.owes⟩
def sendE (l : S_link_Link) (bs : List (List Int)) : Int := if bs.any (fun b => decide ((b.length : Int) > 65536)) then 140 else if (bs.length : Int) > l.room - l.out.length then 80 else 0
theorem link_Send_eq {N : Int} (l : S_link_Link) (bs : List (List Int)) (h : WfL N l) (hb : bs.length ≤ 140737488355328) : link_Link_Send_vvvvvvvvovmv l bs = some (sendE l bs, if sendE l bs = 0 then sendL l bs else l) := by
  have hw := h.window; have hr := h.room; have ho := h.out; have hnx := h.next; have hN := h.nn
  have hany : slices_ContainsFunc_byte_byte_Flink_Link_Send_1 bs = some (bs.any fun b => decide ((b.length : Int) > 65536)) := by
    unfold slices_ContainsFunc_byte_byte_Flink_Link_Send_1 slices_IndexFunc_byte_byte_Flink_Link_Send_1
    rw [index_loop (fun k => Lp.ret (k : Int)) (.brk ()) bs (fun b => decide ((b.length : Int) > 65536)) (by omega) (fun k => by simp only [slices_IndexFunc_byte_byte_Flink_Link_Send_1_b2, link_Link_Send_1, Option.bind_some])]
    cases hf : bs.findIdx? (fun b => decide ((b.length : Int) > 65536)) with
    | none =>
      rw [List.findIdx?_eq_none_iff] at hf
      have : (bs.any fun b => decide ((b.length : Int) > 65536)) = false := by rw [List.any_eq_false]; intro x hx; simp only [hf x hx]; simp
      rw [this]; rfl
    | some i =>
      rw [List.findIdx?_eq_some_iff_getElem] at hf
      obtain ⟨h1, h2, _⟩ := hf
      have : (bs.any fun b => decide ((b.length : Int) > 65536)) = true := List.any_eq_true.2 ⟨_, List.getElem_mem h1, h2⟩
      rw [this]; simp
  unfold link_Link_Send_vvvvvvvvovmv sendE
  rw [hany]
  simp only [Option.bind_some]
  cases ha : (bs.any fun b => decide ((b.length : Int) > 65536)) with
  | true => simp
  | false =>
    simp only [cond_false, Bool.false_eq_true, if_false]
    rw [wrapI (by omega)]
    by_cases hlen : (bs.length : Int) > l.room - l.out.length
    · simp [hlen]
    · simp only [hlen, decide_false, cond_false, if_false, if_true]
      have hsmall : ∀ b ∈ bs, b.length ≤ 65536 := fun b hb => by
        have := List.any_eq_false.1 ha b hb
        simp at this; omega
      have key := loopO_run (body := fun s => link_Link_Send_vvvvvvvvovmv_b2 bs s.1 s.2) (fun s => ∃ k : Nat, s = ((k : Int), sendL l (bs.take k)) ∧ k ≤ bs.length) (fun s => bs.length - s.1.toNat) (fun r => r = sendL l bs) ?_ (0, l) ⟨0, by simp [sendL, numbered], Nat.zero_le _⟩
      · obtain ⟨x, h1, rfl⟩ := key
        rw [h1]; rfl
      · rintro s ⟨k, rfl, hk⟩
        by_cases hkn : k = bs.length
        · subst hkn
          exact .inr ⟨sendL l bs, by simp [link_Link_Send_vvvvvvvvovmv_b2], rfl⟩
        · have hlt : k < bs.length := by omega
          have hlt' : ((k : Int) < (bs.length : Int)) := by omega
          have htl : (bs.take k).length = k := by rw [List.length_take]; omega
          left
          refine ⟨(((k + 1 : Nat) : Int), sendL l (bs.take (k + 1))), ?_, ⟨k + 1, rfl, by omega⟩, by simp; omega⟩
          simp only [link_Link_Send_vvvvvvvvovmv_b2, hlt', decide_true, cond_true, getI_lt hlt, Option.bind_some]
          rw [bytesClone _ (hsmall _ (List.getElem_mem hlt)), Option.bind_some]
          have e1 : IntKind.wrap .i64 ((sendL l (bs.take k)).next + 1) = l.next + k + 1 := by
            simp only [sendL, htl]; rw [wrapI (by omega)]
          rw [e1, app_of (by simp only [sendL, List.length_append, numbered_length, htl, List.length_singleton]; unfold lim; omega)]
          simp only [Option.bind_some, succK (show k ≤ 4611686018427387904 by omega)]
          congr 3
          rw [List.take_succ_eq_append_getElem hlt]
          unfold sendL
          rw [numbered_append]
          simp only [List.length_append, List.length_singleton, htl, List.append_assoc]
          congr 1
          simp; omega
theorem numbered_mem {n : Int} {bs : List (List Int)} {x : S_link_body} (hx : x ∈ numbered n bs) : n + 1 ≤ x.seq ∧ x.seq ≤ n + bs.length ∧ x.at_ = -1 ∧ x.b ∈ bs := by
  induction bs generalizing n with
  | nil => simp [numbered] at hx
  | cons b bs ih =>
    simp only [numbered, List.mem_cons] at hx
    rcases hx with rfl | hx
    · simp; omega
    · have := ih hx
      simp only [List.length_cons, List.mem_cons]
      refine ⟨by omega, by have := this.2.1; push_cast; omega, this.2.2.1, .inr this.2.2.2⟩
theorem numbered_sorted (n : Int) (bs : List (List Int)) : (numbered n bs).Pairwise fun a b => a.seq < b.seq := by
  induction bs generalizing n with
  | nil => exact List.Pairwise.nil
  | cons b bs ih =>
    refine List.Pairwise.cons (fun x hx => ?_) (ih _)
    have := numbered_mem hx
    simp only; omega
theorem sendL_wf {N M : Int} {l : S_link_Link} {bs : List (List Int)} (h : WfL N l) (hs : sendE l bs = 0) (hm : N + bs.length ≤ M ∧ M ≤ 137438953472) : WfL M (sendL l bs) := by
  unfold sendE at hs
  split at hs; · cases hs
  rename_i ha
  split at hs; · cases hs
  rename_i hl
  have hN := h.nn; have hno := h.now; have hnx := h.next; have hg := h.got
  have hsmall : ∀ b ∈ bs, b.length ≤ 65536 := fun b hb => by
    have ha' : (bs.any fun b => decide ((b.length : Int) > 65536)) = false := by
      cases hc : (bs.any fun b => decide ((b.length : Int) > 65536)) with
      | false => rfl
      | true => exact absurd hc ha
    have := List.any_eq_false.1 ha' b hb
    simp at this; omega
  refine ⟨by omega, h.window, h.span, h.room, by simp only [sendL]; omega, by simp only [sendL]; omega, h.acked, by have := h.sent; simp only [sendL]; omega, by simp only [sendL]; omega, ?_, ?_, ?_, h.earlyLen, h.keys⟩
  · simp only [sendL, List.length_append, numbered_length]; push_cast; omega
  · intro b hb
    simp only [sendL] at hb ⊢
    rcases List.mem_append.1 hb with hb | hb
    · have := h.bodies b hb
      exact ⟨by have := this.seq; omega, this.at_, this.len⟩
    · have := numbered_mem hb
      exact ⟨by omega, by omega, hsmall _ this.2.2.2⟩
  · simp only [sendL]
    rw [List.pairwise_append]
    refine ⟨h.sorted, numbered_sorted _ _, fun a ha b hb => ?_⟩
    have h1 := (h.bodies a ha).seq
    have h2 := numbered_mem hb
    omega

/-! ### Tick -/
/-- What bodies come to at a tick, and which segments go. -/
def tickGo (top now span epoch got : Int) : List S_link_body → Int → List S_link_body × List S_api_Seg × Int
  | [], sent => ([], [], sent)
  | b :: bs, sent =>
    if b.seq > top then (b :: bs, [], sent)
    else if b.at_ < 0 ∨ now - b.at_ ≥ span then
      let r := tickGo top now span epoch got bs (if b.seq > sent then b.seq else sent)
      (⟨b.seq, now, b.b⟩ :: r.1, ⟨epoch, b.seq, got, b.b⟩ :: r.2.1, r.2.2)
    else
      let r := tickGo top now span epoch got bs sent
      (b :: r.1, r.2.1, r.2.2)
def tickR (l : S_link_Link) : List S_link_body × List S_api_Seg × Int := tickGo (l.acked + l.window) (l.now + 1) l.span l.epoch l.got l.out l.sent
def tickS (l : S_link_Link) : List S_api_Seg := if (tickR l).2.1 = [] ∧ l.owes = true then [⟨l.epoch, 0, l.got, []⟩] else (tickR l).2.1
def tickL (l : S_link_Link) : S_link_Link := ⟨l.window, l.span, l.room, l.epoch, l.now + 1, l.next, l.acked, (tickR l).2.2, (tickR l).1, l.got, l.early, false⟩
theorem tickGo_length (top now span epoch got : Int) (bs : List S_link_body) (sent : Int) : (tickGo top now span epoch got bs sent).1.length = bs.length ∧ (tickGo top now span epoch got bs sent).2.1.length ≤ bs.length := by
  induction bs generalizing sent with
  | nil => simp [tickGo]
  | cons b bs ih =>
    unfold tickGo
    split
    · simp
    · split
      · have := ih (if b.seq > sent then b.seq else sent)
        simp only [List.length_cons]; omega
      · have := ih sent
        simp only [List.length_cons]; omega
theorem link_Tick_eq {N : Int} (l : S_link_Link) (h : WfL N l) : link_Link_Tick_vvvvvvvvovmv l = some (tickS l, tickL l) := by
  have hw := h.window; have hr := h.room; have ho := h.out; have hnx := h.next; have hN := h.nn; have hno := h.now; have hac := h.acked; have hse := h.sent; have hsp := h.span
  unfold link_Link_Tick_vvvvvvvvovmv
  have key : ∀ (rest done : List S_link_body) (acc : List S_api_Seg) (sent : Int), done.length + rest.length = l.out.length → acc.length ≤ done.length → (∀ b ∈ rest, WfB l.now l.next b) →
      loopO (fun s => link_Link_Tick_vvvvvvvvovmv_b4 l s.1 s.2.1 s.2.2) (acc, (done.length : Int), ⟨l.window, l.span, l.room, l.epoch, l.now + 1, l.next, l.acked, sent, done ++ rest, l.got, l.early, l.owes⟩) =
      some (acc ++ (tickGo (l.acked + l.window) (l.now + 1) l.span l.epoch l.got rest sent).2.1, ⟨l.window, l.span, l.room, l.epoch, l.now + 1, l.next, l.acked, (tickGo (l.acked + l.window) (l.now + 1) l.span l.epoch l.got rest sent).2.2, done ++ (tickGo (l.acked + l.window) (l.now + 1) l.span l.epoch l.got rest sent).1, l.got, l.early, l.owes⟩) := by
    intro rest
    induction rest with
    | nil =>
      intro done acc sent hl hacc hb
      simp only [List.length_nil, Nat.add_zero] at hl
      refine (loopO_end ?_).trans (by simp [tickGo]; rfl)
      simp [link_Link_Tick_vvvvvvvvovmv_b4, hl]
    | cons b bs ih =>
      intro done acc sent hl hacc hb
      simp only [List.length_cons] at hl
      have hwb := hb b (List.mem_cons_self ..)
      have hs1 := hwb.seq; have hs2 := hwb.at_; have hs3 := hwb.len
      have hlt' : ((done.length : Int) < (l.out.length : Int)) := by omega
      have hget : getI (done ++ b :: bs) (done.length : Int) = some b := by rw [getI_nat]; simp
      have hset : List.set (done ++ b :: bs) (Int.toNat (done.length : Int)) ⟨b.seq, l.now + 1, b.b⟩ = (done ++ [(⟨b.seq, l.now + 1, b.b⟩ : S_link_body)]) ++ bs := by simp
      have e1 : IntKind.wrap .i64 (l.acked + l.window) = l.acked + l.window := wrapI (by omega)
      have e2 : IntKind.wrap .i64 (l.now + 1 - b.at_) = l.now + 1 - b.at_ := wrapI (by omega)
      have e3 := succK (show done.length ≤ 4611686018427387904 by omega)
      have hb' : ∀ x ∈ bs, WfB l.now l.next x := fun x hx => hb x (List.mem_cons_of_mem _ hx)
      unfold tickGo
      by_cases c1 : b.seq > l.acked + l.window
      · rw [if_pos c1]
        refine (loopO_end ?_).trans (by simp; rfl)
        simp [link_Link_Tick_vvvvvvvvovmv_b4, hlt', hget, e1, c1]
      · rw [if_neg c1]
        have send : link_Link_Tick_vvvvvvvvovmv_k7 acc (done.length : Int) ⟨l.window, l.span, l.room, l.epoch, l.now + 1, l.next, l.acked, sent, done ++ b :: bs, l.got, l.early, l.owes⟩ b true = some (.inl (acc ++ [⟨l.epoch, b.seq, l.got, b.b⟩], (((done ++ [(⟨b.seq, l.now + 1, b.b⟩ : S_link_body)]).length : Nat) : Int), ⟨l.window, l.span, l.room, l.epoch, l.now + 1, l.next, l.acked, if b.seq > sent then b.seq else sent, (done ++ [(⟨b.seq, l.now + 1, b.b⟩ : S_link_body)]) ++ bs, l.got, l.early, l.owes⟩)) := by
          simp only [link_Link_Tick_vvvvvvvvovmv_k7, cond_true, bytesClone _ hs3, Option.bind_some]
          rw [app_of (by simp only [List.length_singleton]; unfold lim; omega)]
          simp only [Option.bind_some, link_Link_Tick_vvvvvvvvovmv_k6, e3, hset, List.length_append, List.length_singleton]
        by_cases c2 : b.at_ < 0 ∨ l.now + 1 - b.at_ ≥ l.span
        · rw [if_pos c2]
          have hbody : link_Link_Tick_vvvvvvvvovmv_b4 l acc (done.length : Int) ⟨l.window, l.span, l.room, l.epoch, l.now + 1, l.next, l.acked, sent, done ++ b :: bs, l.got, l.early, l.owes⟩ = some (.inl (acc ++ [⟨l.epoch, b.seq, l.got, b.b⟩], (((done ++ [(⟨b.seq, l.now + 1, b.b⟩ : S_link_body)]).length : Nat) : Int), ⟨l.window, l.span, l.room, l.epoch, l.now + 1, l.next, l.acked, if b.seq > sent then b.seq else sent, (done ++ [(⟨b.seq, l.now + 1, b.b⟩ : S_link_body)]) ++ bs, l.got, l.early, l.owes⟩)) := by
            rw [← send]
            simp only [link_Link_Tick_vvvvvvvvovmv_b4, hlt', decide_true, cond_true, hget, Option.bind_some, e1, c1, decide_false, cond_false, e2]
            rcases c2 with c2 | c2
            · simp [c2]
            · by_cases c3 : b.at_ < 0
              · simp [c3]
              · simp [c3, c2]
          rw [loopO_next hbody, ih _ _ _ (by simp; omega) (by simp; omega) hb']
          simp
        · rw [if_neg c2]
          have c3 : ¬ b.at_ < 0 := fun e => c2 (.inl e)
          have c4 : ¬ l.now + 1 - b.at_ ≥ l.span := fun e => c2 (.inr e)
          have hbody : link_Link_Tick_vvvvvvvvovmv_b4 l acc (done.length : Int) ⟨l.window, l.span, l.room, l.epoch, l.now + 1, l.next, l.acked, sent, done ++ b :: bs, l.got, l.early, l.owes⟩ = some (.inl (acc, (((done ++ [b]).length : Nat) : Int), ⟨l.window, l.span, l.room, l.epoch, l.now + 1, l.next, l.acked, sent, (done ++ [b]) ++ bs, l.got, l.early, l.owes⟩)) := by
            simp only [link_Link_Tick_vvvvvvvvovmv_b4, hlt', decide_true, cond_true, hget, Option.bind_some, e1, c1, decide_false, cond_false, e2, c3, c4, link_Link_Tick_vvvvvvvvovmv_k7, link_Link_Tick_vvvvvvvvovmv_k6, e3, List.length_append, List.length_singleton]
            simp
          rw [loopO_next hbody, ih _ _ _ (by simp; omega) (by simp; omega) hb']
          simp
  have e0 : IntKind.wrap .i64 (l.now + 1) = l.now + 1 := wrapI (by omega)
  rw [e0]
  have k0 := key l.out [] [] l.sent (by simp) (by simp) h.bodies
  simp only [List.nil_append, List.length_nil] at k0
  have k1 : loopO (fun s => link_Link_Tick_vvvvvvvvovmv_b4 l s.1 s.2.1 s.2.2) (([] : List S_api_Seg), 0, (⟨l.window, l.span, l.room, l.epoch, l.now + 1, l.next, l.acked, l.sent, l.out, l.got, l.early, l.owes⟩ : S_link_Link)) = _ := k0
  rw [k1]
  have hlen := (tickGo_length (l.acked + l.window) (l.now + 1) l.span l.epoch l.got l.out l.sent).2
  simp only [Option.bind_some, link_Link_Tick_vvvvvvvvovmv_k1, link_Link_Tick_vvvvvvvvovmv_k3, link_Link_Tick_vvvvvvvvovmv_k2]
  unfold tickS tickL tickR
  cases ht : (tickGo (l.acked + l.window) (l.now + 1) l.span l.epoch l.got l.out l.sent).2.1 with
  | nil =>
    cases hw : l.owes with
    | true =>
      rw [show (((([] : List S_api_Seg).length : Int) == 0)) = true from rfl, cond_true, cond_true, app_nil (by simp [lim])]
      simp
    | false =>
      rw [show (((([] : List S_api_Seg).length : Int) == 0)) = true from rfl]
      simp
  | cons x xs =>
    have : (((x :: xs).length : Int) == 0) = false := beq_eq_false_iff_ne.2 (by simp; omega)
    rw [this]; simp
theorem tickGo_mem (top now span epoch got next : Int) (hspan : 1 ≤ span) {bs : List S_link_body} {sent : Int} (hs : sent ≤ next) (hb : ∀ b ∈ bs, WfB (now - 1) next b) (hn : 0 ≤ now) :
    (∀ b ∈ (tickGo top now span epoch got bs sent).1, WfB now next b) ∧ sent ≤ (tickGo top now span epoch got bs sent).2.2 ∧ (tickGo top now span epoch got bs sent).2.2 ≤ next := by
  induction bs generalizing sent with
  | nil => simp [tickGo]; exact hs
  | cons b bs ih =>
    have hwb := hb b (List.mem_cons_self ..)
    have hb' : ∀ x ∈ bs, WfB (now - 1) next x := fun x hx => hb x (List.mem_cons_of_mem _ hx)
    have up : ∀ x, WfB (now - 1) next x → WfB now next x := fun x hx => ⟨hx.seq, by have := hx.at_; omega, hx.len⟩
    unfold tickGo
    split
    · refine ⟨fun x hx => up x (hb x hx), by simp, hs⟩
    · split
      · have h1 := ih (sent := if b.seq > sent then b.seq else sent) (by have := hwb.seq; split <;> omega) hb'
        refine ⟨fun x hx => ?_, ?_, h1.2.2⟩
        · rcases List.mem_cons.1 hx with rfl | hx
          · exact ⟨hwb.seq, by simp only; omega, hwb.len⟩
          · exact h1.1 x hx
        · have := h1.2.1
          simp only
          split at this <;> omega
      · have h1 := ih (sent := sent) hs hb'
        refine ⟨fun x hx => ?_, h1.2.1, h1.2.2⟩
        rcases List.mem_cons.1 hx with rfl | hx
        · exact up _ hwb
        · exact h1.1 x hx
theorem tickGo_seqs (top now span epoch got : Int) (bs : List S_link_body) (sent : Int) : (tickGo top now span epoch got bs sent).1.map (·.seq) = bs.map (·.seq) := by
  induction bs generalizing sent with
  | nil => simp [tickGo]
  | cons b bs ih =>
    unfold tickGo
    split
    · rfl
    · split <;> simp [ih]
theorem pairwise_seq {bs : List S_link_body} : (bs.Pairwise fun a b => a.seq < b.seq) ↔ (bs.map (·.seq)).Pairwise (· < ·) := by rw [List.pairwise_map]
theorem tickL_wf {N M : Int} {l : S_link_Link} (h : WfL N l) (hm : N + 1 ≤ M ∧ M ≤ 137438953472) : WfL M (tickL l) := by
  have hN := h.nn; have hno := h.now; have hnx := h.next; have hg := h.got; have hac := h.acked
  have h1 := tickGo_mem (l.acked + l.window) (l.now + 1) l.span l.epoch l.got l.next h.span.1 (bs := l.out) (sent := l.sent) h.sent (fun b hb => by
    have := h.bodies b hb
    rw [show l.now + 1 - 1 = l.now by omega]; exact this) (by omega)
  have h2 := (tickGo_length (l.acked + l.window) (l.now + 1) l.span l.epoch l.got l.out l.sent).1
  refine ⟨by omega, h.window, h.span, h.room, by simp only [tickL]; omega, by simp only [tickL]; omega, ?_, ?_, by simp only [tickL]; omega, ?_, h1.1, ?_, h.earlyLen, h.keys⟩
  · have := h1.2.1; simp only [tickL, tickR]; omega
  · exact h1.2.2
  · simp only [tickL, tickR, h2]; exact h.out
  · simp only [tickL, tickR]
    rw [pairwise_seq, tickGo_seqs, ← pairwise_seq]; exact h.sorted

/-! ### Hear -/
def drainGo : Nat → Int → List (Int × List Int) → List (List Int) × Int × List (Int × List Int)
  | 0, g, m => ([], g, m)
  | n + 1, g, m => match mget m (g + 1) with
    | none => ([], g, m)
    | some b => ((b :: (drainGo n (g + 1) (mdel m (g + 1))).1), (drainGo n (g + 1) (mdel m (g + 1))).2.1, (drainGo n (g + 1) (mdel m (g + 1))).2.2)
theorem mdel_length {m : List (Int × List Int)} {k : Int} {b : List Int} (h : mget m k = some b) : (mdel m k).length < m.length := by
  unfold mdel
  unfold mget at h
  obtain ⟨p, hp, _⟩ := Option.map_eq_some_iff.1 h
  have h1 := List.find?_some hp
  have h2 := List.mem_of_find?_eq_some hp
  refine List.length_filter_lt_length_iff_exists.2 ⟨p, h2, ?_⟩
  simpa using h1
theorem mget_mem {m : List (Int × List Int)} {k : Int} {b : List Int} (h : mget m k = some b) : (k, b) ∈ m := by
  unfold mget at h
  obtain ⟨p, hp, rfl⟩ := Option.map_eq_some_iff.1 h
  have h1 := List.find?_some hp
  simp only [decide_eq_true_eq] at h1
  rw [← h1]
  exact List.mem_of_find?_eq_some hp
def hearBad (l : S_link_Link) (s : S_api_Seg) : Bool := decide (s.Ack < 0 ∨ s.Ack > l.sent ∨ s.Seq < 0 ∨ s.Seq = 0 ∧ s.Body ≠ [])
def hearE (l : S_link_Link) (s : S_api_Seg) : Int := if s.Epoch ≠ l.epoch then 160 else if hearBad l s = true then 150 else 0
def ackL (l : S_link_Link) (a : Int) : S_link_Link := ⟨l.window, l.span, l.room, l.epoch, l.now, l.next, if a > l.acked then a else l.acked, l.sent, l.out.filter fun b => !decide (b.seq ≤ if a > l.acked then a else l.acked), l.got, l.early, l.owes⟩
def earlyL (l : S_link_Link) (s : S_api_Seg) : List (Int × List Int) := if s.Seq > l.got ∧ s.Seq ≤ l.got + l.window ∧ mget l.early s.Seq = none then l.early ++ [(s.Seq, s.Body)] else l.early
def hearR (l : S_link_Link) (s : S_api_Seg) : List (List Int) × Int × List (Int × List Int) := drainGo (earlyL l s).length l.got (earlyL l s)
def hearX (l : S_link_Link) (s : S_api_Seg) : List (List Int) := if hearE l s = 0 ∧ s.Seq ≠ 0 then (hearR l s).1 else []
def hearL (l : S_link_Link) (s : S_api_Seg) : S_link_Link :=
  if hearE l s = 0 then
    (if s.Seq = 0 then ackL l s.Ack else ⟨l.window, l.span, l.room, l.epoch, l.now, l.next, (ackL l s.Ack).acked, l.sent, (ackL l s.Ack).out, (hearR l s).2.1, (hearR l s).2.2, true⟩)
  else l
theorem deleteL (bs : List S_link_body) (a b c d e f g h i : Int) (o : Bool) (hl : bs.length ≤ 4096) : slices_DeleteFunc_link_body_link_body_w_Flink_Link_Hear_1_b_vvvvvvvvxvxv bs a b c d e f g h i o = some (bs.filter fun x => !decide (x.seq ≤ g)) := by
  unfold slices_DeleteFunc_link_body_link_body_w_Flink_Link_Hear_1_b_vvvvvvvvxvxv slices_IndexFunc_link_body_link_body_Flink_Link_Hear_1_b_vvvvvvvvxvxv
  rw [index_loop (fun k => Lp.ret (k : Int)) (.brk ()) bs (fun x => decide (x.seq ≤ g)) (by omega) (fun k => by simp only [slices_IndexFunc_link_body_link_body_Flink_Link_Hear_1_b_vvvvvvvvxvxv_b2, link_Link_Hear_1_b_vvvvvvvvxvxv, Option.bind_some])]
  cases hf : bs.findIdx? (fun x => decide (x.seq ≤ g)) with
  | none =>
    rw [List.findIdx?_eq_none_iff] at hf
    have : bs.filter (fun x => !decide (x.seq ≤ g)) = bs := by
      rw [List.filter_eq_self]; intro x hx; simp only [hf x hx]; rfl
    rw [this]; rfl
  | some j =>
    rw [List.findIdx?_eq_some_iff_getElem] at hf
    obtain ⟨h1, h2, h3⟩ := hf
    have e1 : ((j : Int) == -1) = false := beq_eq_false_iff_ne.2 (by omega)
    simp only [Option.bind_some, e1, cond_false]
    rw [succK (by omega)]
    obtain ⟨xs, q, hx1, hx2, hx3, hx4⟩ := delete_loop bs (fun x => decide (x.seq ≤ g)) (by omega) (body := fun s => slices_DeleteFunc_link_body_link_body_w_Flink_Link_Hear_1_b_vvvvvvvvxvxv_b2 a b c d e f g h i o s.1 s.2.1 s.2.2) (fun xs i k => by
      simp only [slices_DeleteFunc_link_body_link_body_w_Flink_Link_Hear_1_b_vvvvvvvvxvxv_b2, slices_DeleteFunc_link_body_link_body_w_Flink_Link_Hear_1_b_vvvvvvvvxvxv_k4, link_Link_Hear_1_b_vvvvvvvvxvxv, Option.bind_some]) j h1 (fun r hr x hx => by
        have hrl : r < bs.length := (List.getElem?_eq_some_iff.1 hx).1
        have := h3 r hr
        rw [List.getElem?_eq_getElem hrl] at hx
        cases hx
        simpa using this) h2
    rw [hx1]
    simp only [Option.bind_some, slices_DeleteFunc_link_body_link_body_w_Flink_Link_Hear_1_b_vvvvvvvvxvxv_k1, guardO]
    rw [if_pos (by omega)]
    have e3 : subL (List.take (Int.toNat (q : Int)) xs ++ List.replicate (xs.length - Int.toNat (q : Int)) (⟨0, 0, ([] : List Int)⟩ : S_link_body)) 0 (q : Int) = some (xs.take q) := by
      unfold subL
      rw [if_pos (by simp; omega)]
      simp
      rw [List.take_append_of_le_length (by simp; omega), List.take_take, Nat.min_self]
    rw [e3, hx3]
    rfl
theorem drain_loop (l : S_link_Link) (N : Int) (hN : N ≤ 137438953472) : ∀ (n : Nat) (m : List (Int × List Int)) (g : Int) (acc : List (List Int)), m.length ≤ n → 0 ≤ g → g + m.length ≤ N → (acc.length : Int) ≤ g → (∀ p ∈ m, p.2.length ≤ 65536) →
    loopO (fun s => link_Link_Hear_vvvvvvvvovmv_b3 s.1 s.2) (acc, (⟨l.window, l.span, l.room, l.epoch, l.now, l.next, l.acked, l.sent, l.out, g, m, l.owes⟩ : S_link_Link)) =
    some (.ret (acc ++ (drainGo n g m).1, 0, (⟨l.window, l.span, l.room, l.epoch, l.now, l.next, l.acked, l.sent, l.out, (drainGo n g m).2.1, (drainGo n g m).2.2, l.owes⟩ : S_link_Link))) := by
  intro n
  induction n with
  | zero =>
    intro m g acc hm hg hb ha hp
    have : m = [] := List.eq_nil_of_length_eq_zero (by omega)
    subst this
    refine (loopO_end ?_).trans (by simp [drainGo]; rfl)
    simp [link_Link_Hear_vvvvvvvvovmv_b3, mget_nil]
  | succ n ih =>
    intro m g acc hm hg hb ha hp
    have e1 : IntKind.wrap .i64 (g + 1) = g + 1 := wrapI (by omega)
    unfold drainGo
    cases hk : mget m (g + 1) with
    | none =>
      refine (loopO_end ?_).trans (by simp; rfl)
      simp [link_Link_Hear_vvvvvvvvovmv_b3, e1, hk]
    | some b =>
      have hlt := mdel_length hk
      have hbody : link_Link_Hear_vvvvvvvvovmv_b3 acc (⟨l.window, l.span, l.room, l.epoch, l.now, l.next, l.acked, l.sent, l.out, g, m, l.owes⟩ : S_link_Link) = some (.inl (acc ++ [b], (⟨l.window, l.span, l.room, l.epoch, l.now, l.next, l.acked, l.sent, l.out, g + 1, mdel m (g + 1), l.owes⟩ : S_link_Link))) := by
        simp only [link_Link_Hear_vvvvvvvvovmv_b3, e1, hk, Option.getD_some, Option.bind_some, Option.isSome_some, Bool.not_true, cond_false]
        rw [app_of (by simp only [List.length_singleton]; unfold lim; omega)]
        rfl
      rw [loopO_next hbody, ih (mdel m (g + 1)) (g + 1) (acc ++ [b]) (by omega) (by omega) (by omega) (by simp only [List.length_append, List.length_singleton]; push_cast; omega) (fun p hp' => hp p (List.mem_filter.1 hp').1)]
      simp
theorem link_Hear_eq {N : Int} (l : S_link_Link) (s : S_api_Seg) (h : WfL N l) (hN1 : N + 1 ≤ 137438953472) (hs : s.Body.length ≤ 65536) : link_Link_Hear_vvvvvvvvovmv l s = some (hearX l s, hearE l s, hearL l s) := by
  have hw := h.window; have hr := h.room; have ho := h.out; have hnx := h.next; have hN := h.nn; have hno := h.now; have hac := h.acked; have hse := h.sent; have hg := h.got
  have bad : link_Link_Hear_vvvvvvvvovmv l s = cond (s.Epoch != l.epoch) (some (([] : List (List Int)), 160, l)) (link_Link_Hear_vvvvvvvvovmv_k1 l s (hearBad l s)) := by
    unfold link_Link_Hear_vvvvvvvvovmv hearBad
    congr 1
    by_cases c1 : s.Ack < 0
    · simp [c1]
    · by_cases c2 : s.Ack > l.sent
      · simp [c1, c2]
      · by_cases c3 : s.Seq < 0
        · simp [c1, c2, c3]
        · by_cases c4 : s.Seq = 0
          · have : decide ((s.Body.length : Int) > 0) = decide (s.Body ≠ []) := by
              cases s.Body <;> simp
            simp only [c1, c2, c4, this, decide_false, cond_false, BEq.rfl, cond_true, false_or, true_and]
            simp
          · have : (s.Seq == 0) = false := by simp [c4]
            simp [c1, c2, c3, c4, this]
  rw [bad]
  by_cases c0 : s.Epoch = l.epoch
  · have e0 : (s.Epoch != l.epoch) = false := by simp [c0]
    rw [e0, cond_false]
    have eE : hearE l s = if hearBad l s = true then 150 else 0 := by unfold hearE; rw [if_neg (by simp [c0])]
    cases hbad : hearBad l s with
    | true =>
      have e1 : hearE l s = 150 := by rw [eE, hbad]; rfl
      simp only [link_Link_Hear_vvvvvvvvovmv_k1, cond_true, hearX, hearL, e1]
      simp
    | false =>
      have e1 : hearE l s = 0 := by rw [eE, hbad]; rfl
      simp only [link_Link_Hear_vvvvvvvvovmv_k1, cond_false]
      rw [deleteL l.out _ _ _ _ _ _ _ _ _ _ (by omega)]
      simp only [Option.bind_some, hearX, hearL, e1, if_true, true_and]
      by_cases c1 : s.Seq = 0
      · have : (s.Seq == 0) = true := by simp [c1]
        rw [this, cond_true, if_pos c1, if_neg (show ¬ s.Seq ≠ 0 by simp [c1])]
        rfl
      · have : (s.Seq == 0) = false := by simp [c1]
        rw [this, cond_false, if_neg c1, if_pos (show s.Seq ≠ 0 from c1)]
        have hbound : l.early.length + 1 ≤ 274877906944 ∨ True := .inr trivial
        have e2 : IntKind.wrap .i64 (l.got + l.window) = l.got + l.window := wrapI (by omega)
        have fin : ∀ m, m = earlyL l s → m.length ≤ l.early.length + 1 → (∀ p ∈ m, p.2.length ≤ 65536) → link_Link_Hear_vvvvvvvvovmv_k2 l s (l.out.filter fun b => !decide (b.seq ≤ if s.Ack > l.acked then s.Ack else l.acked)) m = some ((hearR l s).1, 0, (⟨l.window, l.span, l.room, l.epoch, l.now, l.next, (ackL l s.Ack).acked, l.sent, (ackL l s.Ack).out, (hearR l s).2.1, (hearR l s).2.2, true⟩ : S_link_Link)) := by
          intro m hm hlen hp
          unfold link_Link_Hear_vvvvvvvvovmv_k2
          have k := drain_loop ⟨l.window, l.span, l.room, l.epoch, l.now, l.next, if s.Ack > l.acked then s.Ack else l.acked, l.sent, l.out.filter fun b => !decide (b.seq ≤ if s.Ack > l.acked then s.Ack else l.acked), l.got, m, true⟩ (N + 1) hN1 m.length m l.got [] (Nat.le_refl _) hg.1 (by omega) (by simp; omega) hp
          simp only at k
          rw [k]
          simp only [Option.bind_some, List.nil_append]
          unfold hearR
          rw [← hm]
          rfl
        have wfEarly : ∀ p ∈ l.early, p.2.length ≤ 65536 := h.earlyLen
        simp only [link_Link_Hear_vvvvvvvvovmv_k5, e2]
        by_cases c2 : s.Seq > l.got
        · by_cases c3 : s.Seq ≤ l.got + l.window
          · cases c4 : mget l.early s.Seq with
            | none =>
              simp only [c2, c3, decide_true, cond_true, Option.isSome_none, Bool.not_false, bytesClone _ hs, Option.bind_some]
              have e3 : mput l.early s.Seq s.Body = l.early ++ [(s.Seq, s.Body)] := by
                unfold mput; rw [mget_any, c4]; rfl
              rw [e3]
              refine fin _ (by unfold earlyL; rw [if_pos ⟨c2, c3, c4⟩]) (by simp) (fun p hp => ?_)
              rcases List.mem_append.1 hp with hp | hp
              · exact wfEarly p hp
              · rw [List.mem_singleton.1 hp]; exact hs
            | some b =>
              simp only [c2, c3, decide_true, cond_true, Option.isSome_some, Bool.not_true, cond_false, Option.bind_some]
              exact fin _ (by unfold earlyL; rw [if_neg (by rw [c4]; simp)]) (by omega) wfEarly
          · simp only [c2, c3, decide_true, decide_false, cond_true, cond_false, Option.bind_some]
            exact fin _ (by unfold earlyL; rw [if_neg (fun e => c3 e.2.1)]) (by omega) wfEarly
        · simp only [c2, decide_false, cond_false, Option.bind_some]
          exact fin _ (by unfold earlyL; rw [if_neg (fun e => c2 e.1)]) (by omega) wfEarly
  · have e0 : (s.Epoch != l.epoch) = true := by simp [c0]
    have e1 : hearE l s = 160 := by unfold hearE; rw [if_pos c0]
    rw [e0, cond_true]
    simp only [hearX, hearL, e1]
    simp

theorem drainGo_inv : ∀ (n : Nat) (g : Int) (m : List (Int × List Int)), g ≤ (drainGo n g m).2.1 ∧ (drainGo n g m).2.1 + ((drainGo n g m).2.2.length : Int) ≤ g + m.length ∧ (drainGo n g m).2.2.Sublist m
  | 0, g, m => by simp [drainGo]
  | n + 1, g, m => by
    unfold drainGo
    cases hk : mget m (g + 1) with
    | none => simp
    | some b =>
      have := drainGo_inv n (g + 1) (mdel m (g + 1))
      have hlt := mdel_length hk
      simp only
      refine ⟨by omega, by omega, this.2.2.trans ?_⟩
      unfold mdel; exact List.filter_sublist
theorem mget_none {m : List (Int × List Int)} {k : Int} (h : mget m k = none) : k ∉ m.map (·.1) := by
  intro hk
  obtain ⟨p, hp, rfl⟩ := List.mem_map.1 hk
  unfold mget at h
  rw [Option.map_eq_none_iff, List.find?_eq_none] at h
  have := h p hp
  simp at this
theorem earlyL_props {N : Int} {l : S_link_Link} {s : S_api_Seg} (h : WfL N l) (hs : s.Body.length ≤ 65536) : (earlyL l s).length ≤ l.early.length + 1 ∧ (∀ p ∈ earlyL l s, p.2.length ≤ 65536) ∧ ((earlyL l s).map (·.1)).Nodup := by
  unfold earlyL
  split
  · rename_i c
    refine ⟨by simp, fun p hp => ?_, ?_⟩
    · rcases List.mem_append.1 hp with hp | hp
      · exact h.earlyLen p hp
      · rw [List.mem_singleton.1 hp]; exact hs
    · rw [List.map_append, List.nodup_append]
      refine ⟨h.keys, by simp, fun a ha b hb e => ?_⟩
      simp at hb
      subst e
      exact mget_none c.2.2 (hb ▸ ha)
  · exact ⟨by omega, h.earlyLen, h.keys⟩
theorem ackL_wf {N : Int} {l : S_link_Link} {a : Int} (h : WfL N l) (ha : a ≤ l.sent) : WfL N (ackL l a) := by
  have hac := h.acked
  refine ⟨h.nn, h.window, h.span, h.room, h.now, h.next, ?_, h.sent, h.got, ?_, ?_, ?_, h.earlyLen, h.keys⟩
  · simp only [ackL]; split <;> omega
  · have := List.length_filter_le (fun b : S_link_body => !decide (b.seq ≤ if a > l.acked then a else l.acked)) l.out
    have h2 := h.out
    simp only [ackL]; omega
  · intro b hb
    exact h.bodies b (List.mem_filter.1 hb).1
  · exact h.sorted.sublist List.filter_sublist
theorem hearBad_ack {l : S_link_Link} {s : S_api_Seg} (h : hearE l s = 0) : s.Epoch = l.epoch ∧ 0 ≤ s.Ack ∧ s.Ack ≤ l.sent ∧ 0 ≤ s.Seq := by
  unfold hearE at h
  split at h; · cases h
  rename_i c0
  split at h; · cases h
  rename_i c1
  unfold hearBad at c1
  simp only [decide_eq_true_eq, not_or] at c1
  exact ⟨Classical.not_not.1 c0, by omega, by omega, by omega⟩
theorem hearL_wf {N M : Int} {l : S_link_Link} {s : S_api_Seg} (h : WfL N l) (hs : s.Body.length ≤ 65536) (hm : N + 1 ≤ M ∧ M ≤ 137438953472) : WfL M (hearL l s) := by
  have hN := h.nn
  unfold hearL
  split
  · rename_i hE
    have hb := hearBad_ack hE
    have hA := ackL_wf h hb.2.2.1
    split
    · exact hA.up ⟨by omega, hm.2⟩
    · have hp := earlyL_props h hs
      have hd := drainGo_inv (earlyL l s).length l.got (earlyL l s)
      have hg := h.got; have hno := h.now; have hnx := h.next
      refine ⟨by omega, h.window, h.span, h.room, by simp only; omega, by simp only; omega, hA.acked, h.sent, ?_, hA.out, hA.bodies, hA.sorted, ?_, ?_⟩
      · simp only [hearR]; omega
      · intro p hp'
        exact hp.2.1 p (hd.2.2.subset hp')
      · exact hp.2.2.sublist (hd.2.2.map _)
  · exact h.up ⟨by omega, hm.2⟩
end Go.Pel

/- LinkActs: a link answers as the document's does. -/
import Derived.Test.YtnmienbmlfpdoaaPelLinkSpec
set_option linter.unusedVariables false
namespace Go.Pel
open Go.RowKit Go.Proofs

/-! ### The document's link that a link stands for -/
def absB (now : Int) (b : S_link_body) : S_ref16_Body := ⟨b.seq, if b.at_ < 0 then -1 else now - b.at_, b.b⟩
def absE (p : Int × List Int) : S_ref16_Early := ⟨p.1, p.2⟩
def absL (l : S_link_Link) : S_ref16_Link := ⟨l.window, l.span, l.room, l.epoch, l.next, l.acked, l.sent, l.got, l.out.map (absB l.now), l.early.map absE, l.owes⟩

theorem ref16_Right_eq (w s r : Int) : ref16_Right w s r = some (sidesR w s r) := by
  unfold ref16_Right ref16_Right_k1 sidesR
  by_cases h1 : w > 0 <;> by_cases h2 : w < 65 <;> by_cases h3 : s > 0 <;> by_cases h4 : s < 1001 <;> by_cases h5 : r > 0 <;>
    simp only [h1, h2, h3, h4, h5, decide_true, decide_false, cond_true, cond_false] <;> (congr 1; first | (simp; omega) | (rw [eq_comm, decide_eq_false_iff_not]; omega) | (rw [Bool.eq_iff_iff]; simp; omega))

theorem map_numbered (now n : Int) (bs : List (List Int)) : (numbered n bs).map (absB now) = (bs.foldl (fun (s : Int × List S_ref16_Body) b => (s.1 + 1, s.2 ++ [⟨s.1 + 1, -1, b⟩])) (n, [])).2 := by
  have key : ∀ (bs : List (List Int)) (n : Int) (acc : List S_ref16_Body), (bs.foldl (fun (s : Int × List S_ref16_Body) b => (s.1 + 1, s.2 ++ [⟨s.1 + 1, -1, b⟩])) (n, acc)).2 = acc ++ (numbered n bs).map (absB now) := by
    intro bs
    induction bs with
    | nil => intro n acc; simp [numbered]
    | cons b bs ih => intro n acc; simp [numbered, ih, absB]
  rw [key]; simp
theorem ref_Send_eq {N : Int} (l : S_link_Link) (bs : List (List Int)) (h : WfL N l) (hb : bs.length ≤ 140737488355328) : ref16_Link_Send_vvvvvvvvoov (absL l) bs = some (sendE l bs, absL (if sendE l bs = 0 then sendL l bs else l)) := by
  have hw := h.window; have hr := h.room; have ho := h.out; have hnx := h.next; have hN := h.nn
  unfold ref16_Link_Send_vvvvvvvvoov sendE
  rw [any_loop (.ret (140, absL l)) (.brk ()) bs (fun b => decide ((b.length : Int) > 65536)) (by omega) (fun k => rfl)]
  cases ha : (bs.any fun b => decide ((b.length : Int) > 65536)) with
  | true => simp
  | false =>
    simp only [Bool.false_eq_true, if_false, Option.bind_some, ref16_Link_Send_vvvvvvvvoov_k1]
    have e0 : ((absL l).Out.length : Int) = l.out.length := by simp [absL]
    have e1 : (absL l).Room = l.room := rfl
    rw [e0, e1, wrapI (by omega)]
    by_cases hlen : (bs.length : Int) > l.room - l.out.length
    · have : (l.out.length : Int) + bs.length > l.room := by omega
      simp [hlen, this]
    · have hle : ¬ (l.out.length : Int) + bs.length > l.room := by omega
      simp only [hlen, hle, decide_false, cond_false, if_false, if_true]
      have hsmall : ∀ b ∈ bs, b.length ≤ 65536 := fun b hb => by
        have := List.any_eq_false.1 ha b hb
        simp at this; omega
      have key := loopO_run (body := fun s => ref16_Link_Send_vvvvvvvvoov_b3 bs s.1 s.2) (fun s => ∃ k : Nat, s = ((k : Int), absL (sendL l (bs.take k))) ∧ k ≤ bs.length) (fun s => bs.length - s.1.toNat) (fun r => r = absL (sendL l bs)) ?_ (0, absL l) ⟨0, by simp [sendL, numbered], Nat.zero_le _⟩
      · obtain ⟨x, h1, rfl⟩ := key
        rw [h1]; rfl
      · rintro s ⟨k, rfl, hk⟩
        by_cases hkn : k = bs.length
        · subst hkn
          exact .inr ⟨absL (sendL l bs), by simp [ref16_Link_Send_vvvvvvvvoov_b3], rfl⟩
        · have hlt : k < bs.length := by omega
          have hlt' : ((k : Int) < (bs.length : Int)) := by omega
          have htl : (bs.take k).length = k := by rw [List.length_take]; omega
          left
          refine ⟨(((k + 1 : Nat) : Int), absL (sendL l (bs.take (k + 1)))), ?_, ⟨k + 1, rfl, by omega⟩, by simp; omega⟩
          simp only [ref16_Link_Send_vvvvvvvvoov_b3, hlt', decide_true, cond_true, getI_lt hlt, Option.bind_some]
          rw [app_nil (by have := hsmall _ (List.getElem_mem hlt); unfold lim; omega), Option.bind_some]
          have e1 : IntKind.wrap .i64 ((absL (sendL l (bs.take k))).Next + 1) = l.next + k + 1 := by
            simp only [sendL, absL, htl]; rw [wrapI (by omega)]
          rw [e1, app_of (by simp only [absL, sendL, List.length_map, List.length_append, numbered_length, htl, List.length_singleton]; unfold lim; omega)]
          simp only [Option.bind_some, succK (show k ≤ 4611686018427387904 by omega)]
          congr 3
          rw [List.take_succ_eq_append_getElem hlt]
          unfold sendL absL
          rw [numbered_append]
          simp only [List.length_append, List.length_singleton, htl, List.map_append, List.map_cons, List.map_nil, List.append_assoc, absB]
          congr 1
          simp; omega

theorem absB_up (now : Int) (b : S_link_body) (h : WfB now (b.seq) b ∨ -1 ≤ b.at_ ∧ b.at_ ≤ now) (hn : 0 ≤ now ∧ now ≤ 137438953472) : (if (absB now b).Since ≥ 0 then (⟨(absB now b).Seq, IntKind.wrap .i64 ((absB now b).Since + 1), (absB now b).B⟩ : S_ref16_Body) else absB now b) = absB (now + 1) b := by
  have h' : -1 ≤ b.at_ ∧ b.at_ ≤ now := h.elim (fun h => h.at_) id
  unfold absB
  by_cases c : b.at_ < 0
  · simp [c]
  · simp only [c, if_false]
    rw [if_pos (by omega), wrapI (by omega)]
    congr 1; omega
theorem ref_Tick_eq {N : Int} (l : S_link_Link) (h : WfL N l) : ref16_Link_Tick_vvvvvvvvoov (absL l) = some (tickS l, absL (tickL l)) := by
  have hw := h.window; have hr := h.room; have ho := h.out; have hnx := h.next; have hN := h.nn; have hno := h.now; have hac := h.acked; have hse := h.sent; have hsp := h.span
  unfold ref16_Link_Tick_vvvvvvvvoov
  -- a link on the way
  let mk (sent : Int) (out : List S_ref16_Body) : S_ref16_Link := ⟨l.window, l.span, l.room, l.epoch, l.next, l.acked, sent, l.got, out, l.early.map absE, l.owes⟩
  have head : ∀ (b : S_link_body) (done tail : List S_ref16_Body) (acc : List S_api_Seg) (sent : Int), WfB l.now l.next b → done.length < 4096 →
      ref16_Link_Tick_vvvvvvvvoov_b4 acc (done.length : Int) (mk sent (done ++ absB l.now b :: tail)) = ref16_Link_Tick_vvvvvvvvoov_k7 acc (done.length : Int) (mk sent (done ++ absB l.now b :: tail)) (done ++ absB (l.now + 1) b :: tail) := by
    intro b done tail acc sent hwb hd
    have hlt' : ((done.length : Int) < ((mk sent (done ++ absB l.now b :: tail)).Out.length : Int)) := by simp [mk]; omega
    have hget : getI (mk sent (done ++ absB l.now b :: tail)).Out (done.length : Int) = some (absB l.now b) := by rw [getI_nat]; simp [mk]
    unfold ref16_Link_Tick_vvvvvvvvoov_b4
    simp only [hlt', decide_true, cond_true, hget, Option.bind_some]
    have hup := absB_up l.now b (.inr hwb.at_) (by omega)
    by_cases c : (absB l.now b).Since ≥ 0
    · rw [if_pos c] at hup
      simp only [c, decide_true, cond_true]
      rw [hup]
      congr 1
      simp [mk]
    · rw [if_neg c] at hup
      simp only [c, decide_false, cond_false]
      rw [← hup]
  have e1 : IntKind.wrap .i64 (l.acked + l.window) = l.acked + l.window := wrapI (by omega)
  -- all beyond the window
  have beyond : ∀ (rest : List S_link_body) (done : List S_ref16_Body) (acc : List S_api_Seg) (sent : Int), done.length + rest.length ≤ 4096 → (∀ b ∈ rest, WfB l.now l.next b) → (∀ b ∈ rest, b.seq > l.acked + l.window) →
      loopO (fun s => ref16_Link_Tick_vvvvvvvvoov_b4 s.1 s.2.1 s.2.2) (acc, (done.length : Int), mk sent (done ++ rest.map (absB l.now))) = some (acc, mk sent (done ++ rest.map (absB (l.now + 1)))) := by
    intro rest
    induction rest with
    | nil =>
      intro done acc sent hl _ _
      refine (loopO_end ?_).trans (by simp; rfl)
      simp [ref16_Link_Tick_vvvvvvvvoov_b4, mk]
    | cons b bs ih =>
      intro done acc sent hl hb hq
      simp only [List.length_cons] at hl
      have hbody : ref16_Link_Tick_vvvvvvvvoov_b4 acc (done.length : Int) (mk sent (done ++ (b :: bs).map (absB l.now))) = some (.inl (acc, (((done ++ [absB (l.now + 1) b]).length : Nat) : Int), mk sent ((done ++ [absB (l.now + 1) b]) ++ bs.map (absB l.now)))) := by
        rw [List.map_cons, head b done _ acc sent (hb b (List.mem_cons_self ..)) (by omega)]
        have hget : getI (done ++ absB (l.now + 1) b :: bs.map (absB l.now)) (done.length : Int) = some (absB (l.now + 1) b) := by rw [getI_nat]; simp
        have c1 : (absB (l.now + 1) b).Seq > l.acked + l.window := hq b (List.mem_cons_self ..)
        simp only [ref16_Link_Tick_vvvvvvvvoov_k7, hget, Option.bind_some]
        have e2 : (mk sent (done ++ absB l.now b :: bs.map (absB l.now))).Acked = l.acked := rfl
        have e3 : (mk sent (done ++ absB l.now b :: bs.map (absB l.now))).Window = l.window := rfl
        rw [e2, e3, e1]
        simp only [c1, decide_true, cond_true, ref16_Link_Tick_vvvvvvvvoov_k8, ref16_Link_Tick_vvvvvvvvoov_k6, succK (show done.length ≤ 4611686018427387904 by omega)]
        simp [mk]
      rw [loopO_next hbody, ih _ _ _ (by simp; omega) (fun x hx => hb x (List.mem_cons_of_mem _ hx)) (fun x hx => hq x (List.mem_cons_of_mem _ hx))]
      simp
  have key : ∀ (rest : List S_link_body) (done : List S_ref16_Body) (acc : List S_api_Seg) (sent : Int), done.length + rest.length ≤ 4096 → acc.length ≤ done.length → (∀ b ∈ rest, WfB l.now l.next b) → (rest.Pairwise fun a b => a.seq < b.seq) →
      loopO (fun s => ref16_Link_Tick_vvvvvvvvoov_b4 s.1 s.2.1 s.2.2) (acc, (done.length : Int), mk sent (done ++ rest.map (absB l.now))) =
      some (acc ++ (tickGo (l.acked + l.window) (l.now + 1) l.span l.epoch l.got rest sent).2.1, mk (tickGo (l.acked + l.window) (l.now + 1) l.span l.epoch l.got rest sent).2.2 (done ++ (tickGo (l.acked + l.window) (l.now + 1) l.span l.epoch l.got rest sent).1.map (absB (l.now + 1)))) := by
    intro rest
    induction rest with
    | nil =>
      intro done acc sent hl _ _ _
      refine (loopO_end ?_).trans (by simp [tickGo]; rfl)
      simp [ref16_Link_Tick_vvvvvvvvoov_b4, mk]
    | cons b bs ih =>
      intro done acc sent hl hacc hb hsrt
      have hwb := hb b (List.mem_cons_self ..)
      have hs1 := hwb.seq; have hs2 := hwb.at_; have hs3 := hwb.len
      have hb' : ∀ x ∈ bs, WfB l.now l.next x := fun x hx => hb x (List.mem_cons_of_mem _ hx)
      have hsrt' := List.pairwise_cons.1 hsrt
      unfold tickGo
      by_cases c1 : b.seq > l.acked + l.window
      · rw [if_pos c1, beyond (b :: bs) done acc sent hl hb (fun x hx => by
          rcases List.mem_cons.1 hx with rfl | hx
          · exact c1
          · have := hsrt'.1 x hx; omega)]
        simp
      · rw [if_neg c1]
        simp only [List.length_cons] at hl
        have e3 := succK (show done.length ≤ 4611686018427387904 by omega)
        have hget : getI (done ++ absB (l.now + 1) b :: bs.map (absB l.now)) (done.length : Int) = some (absB (l.now + 1) b) := by rw [getI_nat]; simp
        have hset : List.set (done ++ absB (l.now + 1) b :: bs.map (absB l.now)) (Int.toNat (done.length : Int)) ⟨b.seq, 0, b.b⟩ = (done ++ [(⟨b.seq, 0, b.b⟩ : S_ref16_Body)]) ++ bs.map (absB l.now) := by simp
        have hget2 : getI ((done ++ [(⟨b.seq, 0, b.b⟩ : S_ref16_Body)]) ++ bs.map (absB l.now)) (done.length : Int) = some ⟨b.seq, 0, b.b⟩ := by rw [getI_nat]; simp
        have hsent : ref16_Link_Tick_vvvvvvvvoov_k8 acc (done.length : Int) (mk sent (done ++ absB l.now b :: bs.map (absB l.now))) false (done ++ absB (l.now + 1) b :: bs.map (absB l.now)) =
            some (.inl (acc ++ [(⟨l.epoch, b.seq, l.got, b.b⟩ : S_api_Seg)], (((done ++ [(⟨b.seq, 0, b.b⟩ : S_ref16_Body)]).length : Nat) : Int), mk (if b.seq > sent then b.seq else sent) ((done ++ [(⟨b.seq, 0, b.b⟩ : S_ref16_Body)]) ++ bs.map (absB l.now)))) := by
          simp only [ref16_Link_Tick_vvvvvvvvoov_k8, cond_false, hget, Option.bind_some]
          have es : (absB (l.now + 1) b).Seq = b.seq := rfl
          have eb : (absB (l.now + 1) b).B = b.b := rfl
          have em : (mk sent (done ++ absB l.now b :: bs.map (absB l.now))).Sent = sent := rfl
          rw [es, eb, em, hset, hget2]
          simp only [Option.bind_some]
          have fin : ∀ q, ref16_Link_Tick_vvvvvvvvoov_k9 acc (done.length : Int) (mk sent (done ++ absB l.now b :: bs.map (absB l.now))) (done ++ absB (l.now + 1) b :: bs.map (absB l.now)) (absB (l.now + 1) b) q = some (.inl (acc ++ [(⟨l.epoch, b.seq, l.got, b.b⟩ : S_api_Seg)], (((done ++ [(⟨b.seq, 0, b.b⟩ : S_ref16_Body)]).length : Nat) : Int), mk q ((done ++ [(⟨b.seq, 0, b.b⟩ : S_ref16_Body)]) ++ bs.map (absB l.now)))) := by
            intro q
            simp only [ref16_Link_Tick_vvvvvvvvoov_k9, es, eb, hset, hget2, Option.bind_some]
            rw [app_of (by simp only [List.length_singleton]; unfold lim; omega)]
            simp only [Option.bind_some, ref16_Link_Tick_vvvvvvvvoov_k6, e3]
            simp [mk]
          by_cases c5 : b.seq > sent
          · simp only [c5, decide_true, cond_true, if_true, fin]
          · simp only [c5, decide_false, cond_false, if_false, fin]
        have hstay : ref16_Link_Tick_vvvvvvvvoov_k8 acc (done.length : Int) (mk sent (done ++ absB l.now b :: bs.map (absB l.now))) true (done ++ absB (l.now + 1) b :: bs.map (absB l.now)) =
            some (.inl (acc, (((done ++ [absB (l.now + 1) b]).length : Nat) : Int), mk sent ((done ++ [absB (l.now + 1) b]) ++ bs.map (absB l.now)))) := by
          simp only [ref16_Link_Tick_vvvvvvvvoov_k8, cond_true, ref16_Link_Tick_vvvvvvvvoov_k6, e3]
          simp [mk]
        have hk7 : ref16_Link_Tick_vvvvvvvvoov_b4 acc (done.length : Int) (mk sent (done ++ (b :: bs).map (absB l.now))) = ref16_Link_Tick_vvvvvvvvoov_k8 acc (done.length : Int) (mk sent (done ++ absB l.now b :: bs.map (absB l.now))) (decide (¬ (b.at_ < 0 ∨ l.now + 1 - b.at_ ≥ l.span))) (done ++ absB (l.now + 1) b :: bs.map (absB l.now)) := by
          rw [List.map_cons, head b done _ acc sent hwb (by omega)]
          simp only [ref16_Link_Tick_vvvvvvvvoov_k7, hget, Option.bind_some]
          have e2 : (mk sent (done ++ absB l.now b :: bs.map (absB l.now))).Acked = l.acked := rfl
          have e4 : (mk sent (done ++ absB l.now b :: bs.map (absB l.now))).Window = l.window := rfl
          have e5 : (mk sent (done ++ absB l.now b :: bs.map (absB l.now))).Span = l.span := rfl
          have c1' : ¬ (absB (l.now + 1) b).Seq > l.acked + l.window := c1
          rw [e2, e4, e1, e5]
          simp only [c1', decide_false, cond_false]
          by_cases c6 : b.at_ < 0
          · have : ¬ (absB (l.now + 1) b).Since ≥ 0 := by simp [absB, c6]
            simp [this, c6]
          · have e6 : (absB (l.now + 1) b).Since = l.now + 1 - b.at_ := by simp [absB, c6]
            rw [e6]
            have : l.now + 1 - b.at_ ≥ 0 := by omega
            simp only [this, decide_true, cond_true]
            congr 1
            simp [c6]
        by_cases c2 : b.at_ < 0 ∨ l.now + 1 - b.at_ ≥ l.span
        · rw [if_pos c2]
          rw [show decide (¬ (b.at_ < 0 ∨ l.now + 1 - b.at_ ≥ l.span)) = false by simp only [c2, not_true, decide_false], hsent] at hk7
          rw [loopO_next hk7, ih _ _ _ (by simp; omega) (by simp; omega) hb' hsrt'.2]
          have eabs : absB (l.now + 1) ⟨b.seq, l.now + 1, b.b⟩ = ⟨b.seq, 0, b.b⟩ := by
            unfold absB
            rw [if_neg (by simp only; omega)]
            simp
          simp [eabs]
        · rw [if_neg c2]
          rw [show decide (¬ (b.at_ < 0 ∨ l.now + 1 - b.at_ ≥ l.span)) = true by simp only [c2, not_false_eq_true, decide_true], hstay] at hk7
          rw [loopO_next hk7, ih _ _ _ (by simp; omega) (by simp; omega) hb' hsrt'.2]
          simp
  have k0 := key l.out [] [] l.sent (by simp; omega) (by simp) h.bodies h.sorted
  simp only [List.nil_append, List.length_nil] at k0
  have k1 : loopO (fun s => ref16_Link_Tick_vvvvvvvvoov_b4 s.1 s.2.1 s.2.2) (([] : List S_api_Seg), 0, absL l) = _ := k0
  rw [k1]
  have hlen := (tickGo_length (l.acked + l.window) (l.now + 1) l.span l.epoch l.got l.out l.sent).2
  simp only [Option.bind_some, ref16_Link_Tick_vvvvvvvvoov_k1, ref16_Link_Tick_vvvvvvvvoov_k3, ref16_Link_Tick_vvvvvvvvoov_k2]
  unfold tickS tickL tickR absL
  cases ht : (tickGo (l.acked + l.window) (l.now + 1) l.span l.epoch l.got l.out l.sent).2.1 with
  | nil =>
    rw [show (((([] : List S_api_Seg).length : Int) == 0)) = true from rfl]
    cases hw : l.owes with
    | true => simp [mk, hw, app_nil (show ([(⟨l.epoch, 0, l.got, []⟩ : S_api_Seg)] : List S_api_Seg).length ≤ lim by simp [lim])]
    | false => simp [mk, hw]
  | cons x xs =>
    have : (((x :: xs).length : Int) == 0) = false := beq_eq_false_iff_ne.2 (by simp; omega)
    rw [this]; simp [mk]

/-! ### Hear -/
theorem find_early (m : List (Int × List Int)) (k : Int) : (match (m.map absE).findIdx? (fun e => e.Seq == k) with | some i => (m.map absE)[i]?.map (·.B) | none => none) = mget m k := by
  induction m with
  | nil => rfl
  | cons p m ih =>
    rw [List.map_cons, List.findIdx?_cons, mget_cons]
    have e0 : (absE p).Seq = p.1 := rfl
    rw [e0]
    by_cases c : p.1 = k
    · simp [c, absE]
    · have : (p.1 == k) = false := by simpa using c
      rw [this]
      simp only [Bool.false_eq_true, if_false, c]
      rw [← ih]
      cases (m.map absE).findIdx? (fun e => e.Seq == k) with
      | none => rfl
      | some i => simp
theorem ref_find_eq (r : S_ref16_Link) (m : List (Int × List Int)) (k : Int) (he : r.Early = m.map absE) (hn : m.length ≤ 4611686018427387904) : ref16_Link_find_vvvvvvvvoov r k = some (match (m.map absE).findIdx? (fun e => e.Seq == k) with | some i => (i : Int) | none => -1) := by
  unfold ref16_Link_find_vvvvvvvvoov
  rw [index_loop (fun k => Lp.ret (k : Int)) (.brk ()) r.Early (fun e => e.Seq == k) (by rw [he]; simpa using hn) (fun k => rfl), he]
  cases (m.map absE).findIdx? (fun e => e.Seq == k) <;> rfl
theorem mdel_map (m : List (Int × List Int)) (k : Int) : (m.map absE).filter (fun e => e.Seq != k) = (mdel m k).map absE := by
  unfold mdel
  rw [List.filter_map]
  congr 1
theorem ref_drain (l : S_link_Link) (N : Int) (hN : N ≤ 137438953472) : ∀ (n : Nat) (m : List (Int × List Int)) (g : Int) (acc : List (List Int)), m.length ≤ n → 0 ≤ g → g + m.length ≤ N → (acc.length : Int) ≤ g →
    loopO (fun s => ref16_Link_Hear_vvvvvvvvoov_b5 s.1 s.2) (acc, (⟨l.window, l.span, l.room, l.epoch, l.next, l.acked, l.sent, g, l.out.map (absB l.now), m.map absE, l.owes⟩ : S_ref16_Link)) =
    some (acc ++ (drainGo n g m).1, (⟨l.window, l.span, l.room, l.epoch, l.next, l.acked, l.sent, (drainGo n g m).2.1, l.out.map (absB l.now), (drainGo n g m).2.2.map absE, l.owes⟩ : S_ref16_Link)) := by
  intro n
  induction n with
  | zero =>
    intro m g acc hm hg hb ha
    have : m = [] := List.eq_nil_of_length_eq_zero (by omega)
    subst this
    refine (loopO_end ?_).trans (by simp [drainGo]; rfl)
    unfold ref16_Link_Hear_vvvvvvvvoov_b5
    rw [ref_find_eq _ [] _ rfl (by simp)]
    simp
  | succ n ih =>
    intro m g acc hm hg hb ha
    have e1 : IntKind.wrap .i64 (g + 1) = g + 1 := wrapI (by omega)
    unfold drainGo
    have hfe := find_early m (g + 1)
    cases hf : (m.map absE).findIdx? (fun e => e.Seq == g + 1) with
    | none =>
      rw [hf] at hfe
      simp only at hfe
      rw [← hfe]
      refine (loopO_end ?_).trans (by simp; rfl)
      unfold ref16_Link_Hear_vvvvvvvvoov_b5
      rw [ref_find_eq _ m _ rfl (by omega)]
      simp only [e1, hf, Option.bind_some]
      simp
    | some i =>
      rw [hf] at hfe
      simp only at hfe
      have hi : i < (m.map absE).length := (List.findIdx?_eq_some_iff_getElem.1 hf).1
      rw [List.getElem?_eq_getElem hi] at hfe
      simp only [Option.map_some] at hfe
      rw [← hfe]
      have hlt := mdel_length hfe.symm
      have hbody : ref16_Link_Hear_vvvvvvvvoov_b5 acc (⟨l.window, l.span, l.room, l.epoch, l.next, l.acked, l.sent, g, l.out.map (absB l.now), m.map absE, l.owes⟩ : S_ref16_Link) = some (.inl (acc ++ [(m.map absE)[i].B], (⟨l.window, l.span, l.room, l.epoch, l.next, l.acked, l.sent, g + 1, l.out.map (absB l.now), (mdel m (g + 1)).map absE, l.owes⟩ : S_ref16_Link))) := by
        unfold ref16_Link_Hear_vvvvvvvvoov_b5
        rw [ref_find_eq _ m _ rfl (by omega)]
        simp only [e1, hf, Option.bind_some]
        have c0 : decide ((i : Int) ≥ 0) = true := by simp
        rw [c0, cond_true, ref_find_eq _ m _ rfl (by omega)]
        simp only [hf, Option.bind_some, getI_lt hi]
        rw [app_of (by simp only [List.length_singleton]; unfold lim; omega)]
        simp only [Option.bind_some]
        rw [filter_loop (m.map absE) (fun e => e.Seq != g + 1) (by simp; omega) (fun acc k => by
          simp only [ref16_Link_Hear_vvvvvvvvoov_b8, ref16_Link_Hear_vvvvvvvvoov_k10, e1])]
        simp only [Option.bind_some, ref16_Link_Hear_vvvvvvvvoov_k7, e1, mdel_map]
      rw [loopO_next hbody, ih (mdel m (g + 1)) (g + 1) _ (by omega) (by omega) (by omega) (by simp only [List.length_append, List.length_singleton]; push_cast; omega)]
      simp
theorem ref_Hear_eq {N : Int} (l : S_link_Link) (s : S_api_Seg) (h : WfL N l) (hN1 : N + 1 ≤ 137438953472) (hs : s.Body.length ≤ 65536) : ref16_Link_Hear_vvvvvvvvoov (absL l) s = some (hearX l s, hearE l s, absL (hearL l s)) := by
  have hw := h.window; have hr := h.room; have ho := h.out; have hnx := h.next; have hN := h.nn; have hno := h.now; have hac := h.acked; have hse := h.sent; have hg := h.got
  have bad : ref16_Link_Hear_vvvvvvvvoov (absL l) s = cond (s.Epoch != l.epoch) (some (([] : List (List Int)), 160, absL l)) (ref16_Link_Hear_vvvvvvvvoov_k1 (absL l) s (hearBad l s)) := by
    unfold ref16_Link_Hear_vvvvvvvvoov hearBad
    have e1 : (absL l).Epoch = l.epoch := rfl
    have e2 : (absL l).Sent = l.sent := rfl
    rw [e1, e2]
    congr 1
    by_cases c1 : s.Ack < 0
    · simp [c1]
    · by_cases c2 : s.Ack > l.sent
      · simp [c1, c2]
      · by_cases c3 : s.Seq < 0
        · simp [c1, c2, c3]
        · by_cases c4 : s.Seq = 0
          · have : decide ((s.Body.length : Int) > 0) = decide (s.Body ≠ []) := by
              cases s.Body <;> simp
            simp only [c1, c2, c4, this, decide_false, cond_false, BEq.rfl, cond_true, false_or, true_and]
            simp
          · have : (s.Seq == 0) = false := by simp [c4]
            simp [c1, c2, c3, c4, this]
  rw [bad]
  by_cases c0 : s.Epoch = l.epoch
  · have e0 : (s.Epoch != l.epoch) = false := by simp [c0]
    rw [e0, cond_false]
    have eE : hearE l s = if hearBad l s = true then 150 else 0 := by unfold hearE; rw [if_neg (by simp [c0])]
    cases hbad : hearBad l s with
    | true =>
      have e1 : hearE l s = 150 := by rw [eE, hbad]; rfl
      simp only [ref16_Link_Hear_vvvvvvvvoov_k1, cond_true, hearX, hearL, e1]
      simp
    | false =>
      have e1 : hearE l s = 0 := by rw [eE, hbad]; rfl
      simp only [ref16_Link_Hear_vvvvvvvvoov_k1, cond_false, hearX, hearL, e1, if_true, true_and]
      have hk2 : cond (decide (s.Ack > (absL l).Acked)) (ref16_Link_Hear_vvvvvvvvoov_k2 (absL l) s s.Ack) (ref16_Link_Hear_vvvvvvvvoov_k2 (absL l) s (absL l).Acked) = ref16_Link_Hear_vvvvvvvvoov_k2 (absL l) s (ackL l s.Ack).acked := by
        have e2 : (absL l).Acked = l.acked := rfl
        rw [e2]
        simp only [ackL]
        by_cases c : s.Ack > l.acked <;> simp [c]
      rw [hk2]
      unfold ref16_Link_Hear_vvvvvvvvoov_k2
      have eO : (absL l).Out.filter (fun b => decide (b.Seq > (ackL l s.Ack).acked)) = (ackL l s.Ack).out.map (absB l.now) := by
        simp only [absL, List.filter_map]
        simp only [ackL]
        congr 1
        apply List.filter_congr
        intro x hx
        simp only [Function.comp, absB]
        rw [Bool.eq_iff_iff]
        simp
      have hol : (absL l).Out.length ≤ 274877906944 := by simp [absL]; omega
      rw [filter_loop3 (absL l).Out (fun b => decide (b.Seq > (ackL l s.Ack).acked)) hol (fun acc k => by
        simp only [ref16_Link_Hear_vvvvvvvvoov_b12, ref16_Link_Hear_vvvvvvvvoov_k14]), eO]
      simp only [Option.bind_some, ref16_Link_Hear_vvvvvvvvoov_k3]
      by_cases c1 : s.Seq = 0
      · have : (s.Seq == 0) = true := by simp [c1]
        rw [this, cond_true, if_pos c1, if_neg (show ¬ s.Seq ≠ 0 by simp [c1])]
        rfl
      · have : (s.Seq == 0) = false := by simp [c1]
        rw [this, cond_false, if_neg c1, if_pos (show s.Seq ≠ 0 from c1)]
        have eg : (absL l).Got = l.got := rfl
        have ew : (absL l).Window = l.window := rfl
        have ee : (absL l).Early = l.early.map absE := rfl
        have e2 : IntKind.wrap .i64 (l.got + l.window) = l.got + l.window := wrapI (by omega)
        have fin : ∀ m, m = earlyL l s → m.length ≤ l.early.length + 1 → ref16_Link_Hear_vvvvvvvvoov_k4 (absL l) (ackL l s.Ack).acked ((ackL l s.Ack).out.map (absB l.now)) (m.map absE) = some ((hearR l s).1, 0, absL (⟨l.window, l.span, l.room, l.epoch, l.now, l.next, (ackL l s.Ack).acked, l.sent, (ackL l s.Ack).out, (hearR l s).2.1, (hearR l s).2.2, true⟩ : S_link_Link)) := by
          intro m hm hlen
          unfold ref16_Link_Hear_vvvvvvvvoov_k4
          have k := ref_drain ⟨l.window, l.span, l.room, l.epoch, l.now, l.next, (ackL l s.Ack).acked, l.sent, (ackL l s.Ack).out, l.got, m, true⟩ (N + 1) hN1 m.length m l.got [] (Nat.le_refl _) hg.1 (by omega) (by simp; omega)
          simp only at k
          have k2 : loopO (fun s => ref16_Link_Hear_vvvvvvvvoov_b5 s.1 s.2) (([] : List (List Int)), (⟨(absL l).Window, (absL l).Span, (absL l).Room, (absL l).Epoch, (absL l).Next, (ackL l s.Ack).acked, (absL l).Sent, (absL l).Got, (ackL l s.Ack).out.map (absB l.now), m.map absE, true⟩ : S_ref16_Link)) = _ := k
          rw [k2]
          simp only [Option.bind_some, List.nil_append]
          unfold hearR
          rw [← hm]
          rfl
        have hfind : ∀ r : S_ref16_Link, r.Early = l.early.map absE → ∃ x, ref16_Link_find_vvvvvvvvoov r s.Seq = some x ∧ decide (x < 0) = (mget l.early s.Seq).isNone := by
          intro r hr
          refine ⟨_, ref_find_eq r l.early s.Seq hr (by omega), ?_⟩
          have hfe := find_early l.early s.Seq
          cases hf : (l.early.map absE).findIdx? (fun e => e.Seq == s.Seq) with
          | none => rw [hf] at hfe; rw [← hfe]; rfl
          | some i =>
            rw [hf] at hfe
            have hi : i < (l.early.map absE).length := (List.findIdx?_eq_some_iff_getElem.1 hf).1
            rw [← hfe]
            simp only []
            rw [List.getElem?_eq_getElem hi]
            simp
        rw [eg, ew, ee, e2]
        by_cases c2 : s.Seq > l.got
        · by_cases c3 : s.Seq ≤ l.got + l.window
          · obtain ⟨x, hx1, hx2⟩ := hfind (⟨(absL l).Window, (absL l).Span, (absL l).Room, (absL l).Epoch, (absL l).Next, (ackL l s.Ack).acked, (absL l).Sent, (absL l).Got, (ackL l s.Ack).out.map (absB l.now), (absL l).Early, true⟩ : S_ref16_Link) rfl
            have hx3 : ref16_Link_find_vvvvvvvvoov (⟨(absL l).Window, (absL l).Span, (absL l).Room, (absL l).Epoch, (absL l).Next, (ackL l s.Ack).acked, (absL l).Sent, l.got, (ackL l s.Ack).out.map (absB l.now), l.early.map absE, true⟩ : S_ref16_Link) s.Seq = some x := hx1
            have hx4 : ref16_Link_find_vvvvvvvvoov (⟨l.window, (absL l).Span, (absL l).Room, (absL l).Epoch, (absL l).Next, (ackL l s.Ack).acked, (absL l).Sent, l.got, (ackL l s.Ack).out.map (absB l.now), l.early.map absE, true⟩ : S_ref16_Link) s.Seq = some x := hx1
            simp only [c2, c3, decide_true, cond_true, hx4, Option.bind_some, hx2]
            cases c4 : mget l.early s.Seq with
            | none =>
              simp only [Option.isNone_none, ref16_Link_Hear_vvvvvvvvoov_k11, cond_true]
              rw [app_nil (by unfold lim; omega), Option.bind_some, ee, app_of (by simp only [List.length_map, List.length_singleton]; unfold lim; omega), Option.bind_some]
              have e5 : l.early.map absE ++ [(⟨s.Seq, s.Body⟩ : S_ref16_Early)] = (l.early ++ [(s.Seq, s.Body)]).map absE := by simp [absE]
              rw [e5]
              exact fin _ (by unfold earlyL; rw [if_pos ⟨c2, c3, c4⟩]) (by simp)
            | some b =>
              simp only [Option.isNone_some, ref16_Link_Hear_vvvvvvvvoov_k11, cond_false]
              exact fin _ (by unfold earlyL; rw [if_neg (by rw [c4]; simp)]) (by omega)
          · simp only [c2, c3, decide_true, decide_false, cond_true, cond_false, ref16_Link_Hear_vvvvvvvvoov_k11]
            exact fin _ (by unfold earlyL; rw [if_neg (fun e => c3 e.2.1)]) (by omega)
        · simp only [c2, decide_false, cond_false, ref16_Link_Hear_vvvvvvvvoov_k11]
          exact fin _ (by unfold earlyL; rw [if_neg (fun e => c2 e.1)]) (by omega)
  · have e0 : (s.Epoch != l.epoch) = true := by simp [c0]
    have e1 : hearE l s = 160 := by unfold hearE; rw [if_pos c0]
    rw [e0, cond_true]
    simp only [hearX, hearL, e1]
    simp

/-! ### Reset -/
def resetE (l : S_link_Link) (n : Int) : Int := if n ≤ l.epoch ∨ n ≥ 1099511627776 then 160 else 0
def resetL (l : S_link_Link) (n : Int) : S_link_Link := if resetE l n = 0 then ⟨l.window, l.span, l.room, n, 0, 0, 0, 0, [], 0, [], false⟩ else l
theorem link_Reset_eq {N : Int} (l : S_link_Link) (n : Int) (h : WfL N l) : link_Link_Reset_vvvvvvvvovmv l n = some (resetE l n, resetL l n) := by
  have hw := h.window; have hr := h.room; have hsp := h.span
  have hsd : sidesR l.window l.span l.room = true := by unfold sidesR; simp; omega
  unfold link_Link_Reset_vvvvvvvvovmv link_Link_Reset_vvvvvvvvovmv_k1 resetL resetE
  rw [link_New_eq, hsd]
  by_cases c1 : n ≤ l.epoch
  · simp [c1]
  · by_cases c2 : n ≥ 1099511627776
    · simp [c1, c2]
    · simp [c1, c2, newL]
theorem ref_Reset_eq {N : Int} (l : S_link_Link) (n : Int) (h : WfL N l) : ref16_Link_Reset_vvvvvvvvoov (absL l) n = some (resetE l n, absL (resetL l n)) := by
  unfold ref16_Link_Reset_vvvvvvvvoov ref16_Link_Reset_vvvvvvvvoov_k1 resetL resetE
  have e1 : (absL l).Epoch = l.epoch := rfl
  rw [e1]
  by_cases c1 : n ≤ l.epoch
  · simp [c1]
  · by_cases c2 : n ≥ 1099511627776
    · simp [c1, c2]
    · simp [c1, c2, absL]
theorem resetL_wf {N M : Int} {l : S_link_Link} {n : Int} (h : WfL N l) (hm : N ≤ M ∧ M ≤ 137438953472) : WfL M (resetL l n) := by
  unfold resetL
  split
  · have := h.nn
    exact ⟨by omega, h.window, h.span, h.room, by simp; omega, by simp; omega, by simp, by simp, by simp; omega, by have := h.room; simp; omega, by simp, by simp, by simp, by simp⟩
  · exact h.up hm

/-! ### Comparing -/
theorem str_beq (s : ByteArray) : (s == s) = true := by rw [beq_toListBytes]; simp
theorem ref16_Same_eq (x : S_api_Seg) : ref16_Same x x = some true := by
  unfold ref16_Same ref16_Same_k1; simp [str_beq]
theorem segs_eq (xs : List S_api_Seg) (hn : xs.length ≤ 4096 + 1) : law16_segs xs xs = some true := by
  unfold law16_segs
  have e0 : ((xs.length : Int) != (xs.length : Int)) = false := by simp
  rw [e0, cond_false]
  have key := loop_upto (body := fun s => law16_segs_b2 xs xs s) xs.length (fun _ => True) (fun r => r = .brk ()) trivial (fun k hk _ => .inl ⟨?_, trivial⟩) (fun _ => ⟨.brk (), ?_, rfl⟩)
  · obtain ⟨x, h1, rfl⟩ := key; rw [h1]; rfl
  · have hk' : ((k : Int) < (xs.length : Int)) := by omega
    simp only [law16_segs_b2, hk', decide_true, cond_true, getI_lt hk, Option.bind_some, ref16_Same_eq, Bool.not_true, cond_false, succK (show k ≤ 4611686018427387904 by omega)]
  · simp [law16_segs_b2]
theorem bodies_eq (xs : List (List Int)) (hn : xs.length ≤ 137438953473) : law16_bodies xs xs = some true := by
  unfold law16_bodies
  have e0 : ((xs.length : Int) != (xs.length : Int)) = false := by simp
  rw [e0, cond_false]
  have key := loop_upto (body := fun s => law16_bodies_b2 xs xs s) xs.length (fun _ => True) (fun r => r = .brk ()) trivial (fun k hk _ => .inl ⟨?_, trivial⟩) (fun _ => ⟨.brk (), ?_, rfl⟩)
  · obtain ⟨x, h1, rfl⟩ := key; rw [h1]; rfl
  · have hk' : ((k : Int) < (xs.length : Int)) := by omega
    simp only [law16_bodies_b2, hk', decide_true, cond_true, getI_lt hk, Option.bind_some, str_beq, Bool.not_true, cond_false, succK (show k ≤ 4611686018427387904 by omega)]
  · simp [law16_bodies_b2]
theorem small_eq (a : S_law16_Act) : ∃ b, law16_Act_small a = some b ∧ (b = true → a.Bodies.length ≤ 20 ∧ (∀ x ∈ a.Bodies, x.length ≤ 500) ∧ a.S.Body.length ≤ 500) := by
  unfold law16_Act_small law16_Act_small_k1
  by_cases c1 : (a.Bodies.length : Int) > 20
  · exact ⟨false, by simp [c1], by simp⟩
  · by_cases c2 : (a.S.Body.length : Int) > 500
    · exact ⟨false, by simp [c1, c2], by simp⟩
    · rw [any_loop (.ret false) (.brk ()) a.Bodies (fun x => decide ((x.length : Int) > 500)) (by omega) (fun k => rfl)]
      cases h : a.Bodies.any (fun x => decide ((x.length : Int) > 500)) with
      | true => exact ⟨false, by simp [c1, c2], by simp⟩
      | false =>
        refine ⟨true, by simp [c1, c2, law16_Act_small_k2], fun _ => ⟨by omega, fun x hx => ?_, by omega⟩⟩
        have := List.any_eq_false.1 h x hx
        simp at this; omega

/-! ### The whole -/
theorem tickS_length {N : Int} {l : S_link_Link} (h : WfL N l) : (tickS l).length ≤ 4096 + 1 := by
  have hlen := (tickGo_length (l.acked + l.window) (l.now + 1) l.span l.epoch l.got l.out l.sent).2
  have ho := h.out; have hr := h.room
  unfold tickS
  split
  · simp
  · simp only [tickR]; omega
theorem drainGo_length : ∀ (n : Nat) (g : Int) (m : List (Int × List Int)), (drainGo n g m).1.length ≤ n
  | 0, g, m => by simp [drainGo]
  | n + 1, g, m => by
    unfold drainGo
    cases mget m (g + 1) with
    | none => simp
    | some b => have := drainGo_length n (g + 1) (mdel m (g + 1)); simp only [List.length_cons]; omega
theorem hearX_length {N : Int} {l : S_link_Link} {s : S_api_Seg} (h : WfL N l) (hs : s.Body.length ≤ 65536) : (hearX l s).length ≤ 137438953473 := by
  have hp := (earlyL_props h hs).1
  have hg := h.got; have hN := h.nn
  have hd := drainGo_length (earlyL l s).length l.got (earlyL l s)
  unfold hearX
  split
  · simp only [hearR]; omega
  · simp
theorem tells16 (p : S_law16_Sides) (k : Nat) (hk : k ≤ 100) {N : Int} {l : S_link_Link} (h : WfL N l) (hr : l.room = p.Room) : law16_LinkActs_k9 p (k : Int) (absL l) l = some (.inl (((k + 1 : Nat) : Int), absL l, l)) := by
  have ho := h.out
  unfold law16_LinkActs_k9
  have e1 : (((l.out.length : Int)) != ((absL l).Out.length : Int)) = false := by simp [absL]
  have e2 : (l.got != (absL l).Got) = false := by simp [absL]
  have e3 : (l.epoch != (absL l).Epoch) = false := by simp [absL]
  have e4 : decide ((l.out.length : Int) > p.Room) = false := by rw [decide_eq_false_iff_not]; omega
  simp only [link_Link_Left_vvvvvvvvovmv, link_Link_Got_vvvvvvvvovmv, link_Link_Epoch_vvvvvvvvovmv, Option.bind_some, e1, e2, e3, e4, cond_false, law16_LinkActs_k10, succK (show k ≤ 4611686018427387904 by omega)]
theorem room_of (l : S_link_Link) (bs : List (List Int)) (s : S_api_Seg) (n : Int) : (if sendE l bs = 0 then sendL l bs else l).room = l.room ∧ (tickL l).room = l.room ∧ (hearL l s).room = l.room ∧ (resetL l n).room = l.room := by
  refine ⟨by split <;> rfl, rfl, ?_, ?_⟩
  · unfold hearL; split
    · split <;> rfl
    · rfl
  · unfold resetL; split <;> rfl
theorem act16_step (p : S_law16_Sides) (acts : List S_law16_Act) (k : Nat) (hk : k < acts.length) (hk2 : k ≤ 100) {N : Int} {l : S_link_Link} (h : WfL N l) (hN : N + 20 ≤ 137438953472) (hr : l.room = p.Room) :
    law16_LinkActs_b7 p acts (k : Int) (absL l) l = some (.inr (.ret true)) ∨ ∃ l', law16_LinkActs_b7 p acts (k : Int) (absL l) l = some (.inl (((k + 1 : Nat) : Int), absL l', l')) ∧ WfL (N + 20) l' ∧ l'.room = p.Room := by
  have hk' : ((k : Int) < (acts.length : Int)) := by omega
  unfold law16_LinkActs_b7
  simp only [hk', decide_true, cond_true, getI_lt hk, Option.bind_some]
  generalize acts[k] = a
  obtain ⟨b, hb1, hb2⟩ := small_eq a
  rw [hb1]
  simp only [Option.bind_some]
  cases b with
  | false => left; simp
  | true =>
  right
  obtain ⟨w1, w2, w3⟩ := hb2 rfl
  simp only [Bool.not_true, cond_false]
  have up := h.up (M := N + 20) ⟨by omega, hN⟩
  have hro := room_of l a.Bodies a.S a.N
  by_cases c0 : a.Kind = 0
  · have e0 : (a.Kind == 0) = true := by simpa using c0
    rw [e0, cond_true, link_Send_eq l a.Bodies h (by omega), Option.bind_some, ref_Send_eq l a.Bodies h (by omega), Option.bind_some]
    simp only [bne_self_eq_false, cond_false]
    have hwf : WfL (N + 20) (if sendE l a.Bodies = 0 then sendL l a.Bodies else l) := by
      split
      · exact sendL_wf h ‹_› ⟨by omega, hN⟩
      · exact up
    exact ⟨_, tells16 p k hk2 hwf (hro.1.trans hr), hwf, hro.1.trans hr⟩
  have e0 : (a.Kind == 0) = false := by simpa using c0
  rw [e0, cond_false]
  by_cases c1 : a.Kind = 1
  · have e1 : (a.Kind == 1) = true := by simpa using c1
    rw [e1, cond_true, link_Tick_eq l h, Option.bind_some, ref_Tick_eq l h, Option.bind_some, segs_eq _ (tickS_length h)]
    simp only [Option.bind_some, Bool.not_true, cond_false]
    have hwf := tickL_wf (M := N + 20) h ⟨by omega, hN⟩
    exact ⟨_, tells16 p k hk2 hwf (hro.2.1.trans hr), hwf, hro.2.1.trans hr⟩
  have e1 : (a.Kind == 1) = false := by simpa using c1
  rw [e1, cond_false]
  by_cases c2 : a.Kind = 2
  · have e2 : (a.Kind == 2) = true := by simpa using c2
    rw [e2, cond_true, link_Hear_eq l a.S h (by omega) (by omega), Option.bind_some, ref_Hear_eq l a.S h (by omega) (by omega), Option.bind_some]
    simp only [bne_self_eq_false, cond_false, bodies_eq _ (hearX_length h (show a.S.Body.length ≤ 65536 by omega)), Option.bind_some, Bool.not_true, law16_LinkActs_k11]
    have hwf := hearL_wf (M := N + 20) (s := a.S) h (by omega) ⟨by omega, hN⟩
    exact ⟨_, tells16 p k hk2 hwf (hro.2.2.1.trans hr), hwf, hro.2.2.1.trans hr⟩
  have e2 : (a.Kind == 2) = false := by simpa using c2
  rw [e2, cond_false]
  by_cases c3 : a.Kind = 3
  · have e3 : (a.Kind == 3) = true := by simpa using c3
    rw [e3, cond_true, link_Reset_eq l a.N h, Option.bind_some, ref_Reset_eq l a.N h, Option.bind_some]
    simp only [bne_self_eq_false, cond_false]
    have hwf := resetL_wf (M := N + 20) (n := a.N) h ⟨by omega, hN⟩
    exact ⟨_, tells16 p k hk2 hwf (hro.2.2.2.trans hr), hwf, hro.2.2.2.trans hr⟩
  have e3 : (a.Kind == 3) = false := by simpa using c3
  rw [e3, cond_false]
  exact ⟨_, tells16 p k hk2 h hr, up, hr⟩
theorem awake16 : law16_awake = some true := by
  have hs : sidesR 2 3 9 = true := by decide
  unfold law16_awake
  rw [link_New_eq, hs]
  simp only [if_true, Option.bind_some, Option.elim_some]
  have h0 := newL_wf hs
  rw [link_Send_eq _ _ h0 (by simp)]
  have es : sendE (newL 2 3 9) [[97], [98], [99]] = 0 := by decide
  have h1 := sendL_wf (M := 3) h0 es (by simp)
  have h2 := tickL_wf (M := 4) h1 (by decide)
  have h3 := tickL_wf (M := 5) h2 (by decide)
  have h4 := tickL_wf (M := 6) h3 (by decide)
  have h5 := tickL_wf (M := 7) h4 (by decide)
  have h6 := hearL_wf (M := 8) (s := ⟨0, 0, 1, []⟩) h5 (by simp) (by decide)
  simp only [es, if_true, bne_self_eq_false, cond_false, Option.bind_some, law16_awake_k2]
  rw [link_Tick_eq _ h1, Option.bind_some, link_Tick_eq _ h2, Option.bind_some, link_Tick_eq _ h3, Option.bind_some, link_Tick_eq _ h4, Option.bind_some, link_Hear_eq _ _ h5 (by decide) (by simp), Option.bind_some, link_Tick_eq _ h6, Option.bind_some]
  rfl
theorem law16_LinkActs_true (s : S_law16_Sides) (acts : List S_law16_Act) (hs : wf_law16_Sides s) (ha : wfL wf_law16_Act acts) : law16_LinkActs s acts = some true := by
  unfold law16_LinkActs
  rw [awake16]
  simp only [Option.bind_some, Bool.not_true, cond_false]
  by_cases hn : ((acts.length : Int) > 100)
  · simp only [hn, decide_true, law16_LinkActs_k1, cond_true, awake16, Option.bind_some]
  simp only [hn, decide_false, law16_LinkActs_k1, cond_false]
  rw [link_New_eq, ref16_Right_eq]
  simp only [Option.bind_some]
  cases hR : sidesR s.Window s.Span s.Room with
  | false => simp [law16_LinkActs_k2]
  | true =>
    simp only [if_true, Option.elim_some, Bool.not_true, cond_false, law16_LinkActs_k5, bne_self_eq_false]
    have h0 := newL_wf hR
    have key := loopO_run (body := fun t => law16_LinkActs_b7 s acts t.1 t.2.1 t.2.2) (fun t => ∃ (k : Nat) (l : S_link_Link), t = ((k : Int), absL l, l) ∧ k ≤ acts.length ∧ WfL (20 * (k : Int)) l ∧ l.room = s.Room) (fun t => acts.length - t.1.toNat)
      (fun r => r = .ret true ∨ ∃ q d, r = .brk (q, d)) ?_ (0, (⟨s.Window, s.Span, s.Room, 0, 0, 0, 0, 0, [], [], false⟩ : S_ref16_Link), newL s.Window s.Span s.Room) ⟨0, newL s.Window s.Span s.Room, rfl, Nat.zero_le _, by simpa using h0, rfl⟩
    · obtain ⟨x, hx, hx2⟩ := key
      rw [hx]
      rcases hx2 with rfl | ⟨q, d, rfl⟩ <;> rfl
    · rintro t ⟨k, l, rfl, hk, h3, h4⟩
      by_cases hkn : k = acts.length
      · right
        exact ⟨.brk (absL l, l), by simp [law16_LinkActs_b7, hkn], .inr ⟨_, _, rfl⟩⟩
      · have hlt : k < acts.length := by omega
        rcases act16_step s acts k hlt (by omega) h3 (by omega) h4 with h6 | ⟨l', h6, h7, h8⟩
        · exact .inr ⟨_, h6, .inl rfl⟩
        · refine .inl ⟨_, h6, ⟨k + 1, l', rfl, by omega, ?_, h8⟩, by simp; omega⟩
          have e : (20 * ((k + 1 : Nat) : Int)) = 20 * (k : Int) + 20 := by push_cast; omega
          rw [e]; exact h7
end Go.Pel

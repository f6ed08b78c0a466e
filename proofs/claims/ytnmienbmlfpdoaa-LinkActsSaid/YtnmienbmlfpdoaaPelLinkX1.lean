/- Each function: its pure text, and that it comes to it. -/
import Derived.Test.YtnmienbmlfpdoaaPelLinkX0
set_option linter.unusedVariables false
set_option maxHeartbeats 2000000
namespace Go.Pel
open Go.RowKit Go.Proofs
noncomputable section
/-! peloton/pelotonref16.Right -/
def ref16_Right_k1 (v2 : Bool) : Option Bool := some v2
def ref16_Right (p0 : Int) (p1 : Int) (p2 : Int) : Option Bool := cond (decide (p0 > 0)) (cond (decide (p0 < 65)) (cond (decide (p1 > 0)) (cond (decide (p1 < 1001)) (cond (decide (p2 > 0)) (ref16_Right_k1 (decide (p2 < 4097))) (ref16_Right_k1 false)) (ref16_Right_k1 false)) (ref16_Right_k1 false)) (ref16_Right_k1 false)) (ref16_Right_k1 false)
theorem ref16_Right_ok {F : Mem} {p0 : Int} {p1 : Int} {p2 : Int} {r : Bool} (hr : ref16_Right p0 p1 p2 = some r) (Φ : List (List Chunk)) :
    CallsRet Try.prog 11 (List.toArray [.int .i64 p0, .int .i64 p1, .int .i64 p2]) F Φ (fun v w => v = .bool r ∧ Sat F (Φ) w) := by
  refine CallsRet.enter (rs := [.tmp 6]) Try.func11 rfl rfl rfl rfl ?_
  unfold ref16_Right at hr
  refine WC.then ?_
  refine WC.region [(0, true)] rfl ?_
  refine WO.assign rfl rfl rfl rfl ?_
  refine WO.done ?_
  refine At.seq_wc ?_
  refine WC.seq (fun a w => ∃ (v2 : Bool), ref16_Right_k1 v2 = some r ∧ Ctx 29 [(6, .bool v2)] a ∧ Sat F Φ w) ?_ ?_
  · refine WC.region [(0, true), (1, true), (2, true), (3, true), (4, true), (5, true), (6, true), (7, true), (8, true), (9, true), (10, true), (11, true), (12, true), (13, true), (14, true), (15, true), (16, true), (17, true), (18, true), (19, true), (20, true), (21, true), (22, true)] rfl ?_
    refine WO.move rfl rfl rfl rfl ?_
    refine WO.bin rfl rfl rfl rfl rfl rfl ?_
    refine WO.move rfl rfl rfl rfl ?_
    refine WO.split (t := 9) rfl (fun hg3 => ?_) (fun hg3 => ?_)
    · have hr := cond_t hg3 hr
      refine WO.move rfl rfl rfl rfl ?_
      refine WO.bin rfl rfl rfl rfl rfl rfl ?_
      refine WO.pickT rfl rfl rfl rfl rfl ?_
      refine WO.move rfl rfl rfl rfl ?_
      refine WO.split (t := 13) rfl (fun hg4 => ?_) (fun hg4 => ?_)
      · have hr := cond_t hg4 hr
        refine WO.move rfl rfl rfl rfl ?_
        refine WO.bin rfl rfl rfl rfl rfl rfl ?_
        refine WO.pickT rfl rfl rfl rfl rfl ?_
        refine WO.move rfl rfl rfl rfl ?_
        refine WO.split (t := 17) rfl (fun hg5 => ?_) (fun hg5 => ?_)
        · have hr := cond_t hg5 hr
          refine WO.move rfl rfl rfl rfl ?_
          refine WO.bin rfl rfl rfl rfl rfl rfl ?_
          refine WO.pickT rfl rfl rfl rfl rfl ?_
          refine WO.move rfl rfl rfl rfl ?_
          refine WO.split (t := 21) rfl (fun hg6 => ?_) (fun hg6 => ?_)
          · have hr := cond_t hg6 hr
            refine WO.move rfl rfl rfl rfl ?_
            refine WO.bin rfl rfl rfl rfl rfl rfl ?_
            refine WO.pickT rfl rfl rfl rfl rfl ?_
            refine WO.move rfl rfl rfl rfl ?_
            refine WO.split (t := 25) rfl (fun hg7 => ?_) (fun hg7 => ?_)
            · have hr := cond_t hg7 hr
              refine WO.move rfl rfl rfl rfl ?_
              refine WO.bin rfl rfl rfl rfl rfl rfl ?_
              refine WO.pickT rfl rfl rfl rfl rfl ?_
              refine WO.assign rfl rfl rfl rfl ?_
              refine WO.done ?_
              refine At.seq_at ?_
              exact fun a w hc hs => ⟨(decide (p2 < 4097)), hr, (hc.keep hc.nil (t := 6) rfl), hs⟩
            · have hr := cond_f hg7 hr
              refine WO.skip rfl rfl rfl rfl ?_
              refine WO.skip rfl rfl rfl rfl ?_
              refine WO.pickF rfl rfl rfl rfl rfl ?_
              refine WO.assign rfl rfl rfl rfl ?_
              refine WO.done ?_
              refine At.seq_at ?_
              exact fun a w hc hs => ⟨false, hr, (hc.keep hc.nil (t := 6) rfl), hs⟩
          · have hr := cond_f hg6 hr
            refine WO.skip rfl rfl rfl rfl ?_
            refine WO.skip rfl rfl rfl rfl ?_
            refine WO.pickF rfl rfl rfl rfl rfl ?_
            refine WO.move rfl rfl rfl rfl ?_
            refine WO.skip rfl rfl rfl rfl ?_
            refine WO.skip rfl rfl rfl rfl ?_
            refine WO.pickF rfl rfl rfl rfl rfl ?_
            refine WO.assign rfl rfl rfl rfl ?_
            refine WO.done ?_
            refine At.seq_at ?_
            exact fun a w hc hs => ⟨false, hr, (hc.keep hc.nil (t := 6) rfl), hs⟩
        · have hr := cond_f hg5 hr
          refine WO.skip rfl rfl rfl rfl ?_
          refine WO.skip rfl rfl rfl rfl ?_
          refine WO.pickF rfl rfl rfl rfl rfl ?_
          refine WO.move rfl rfl rfl rfl ?_
          refine WO.skip rfl rfl rfl rfl ?_
          refine WO.skip rfl rfl rfl rfl ?_
          refine WO.pickF rfl rfl rfl rfl rfl ?_
          refine WO.move rfl rfl rfl rfl ?_
          refine WO.skip rfl rfl rfl rfl ?_
          refine WO.skip rfl rfl rfl rfl ?_
          refine WO.pickF rfl rfl rfl rfl rfl ?_
          refine WO.assign rfl rfl rfl rfl ?_
          refine WO.done ?_
          refine At.seq_at ?_
          exact fun a w hc hs => ⟨false, hr, (hc.keep hc.nil (t := 6) rfl), hs⟩
      · have hr := cond_f hg4 hr
        refine WO.skip rfl rfl rfl rfl ?_
        refine WO.skip rfl rfl rfl rfl ?_
        refine WO.pickF rfl rfl rfl rfl rfl ?_
        refine WO.move rfl rfl rfl rfl ?_
        refine WO.skip rfl rfl rfl rfl ?_
        refine WO.skip rfl rfl rfl rfl ?_
        refine WO.pickF rfl rfl rfl rfl rfl ?_
        refine WO.move rfl rfl rfl rfl ?_
        refine WO.skip rfl rfl rfl rfl ?_
        refine WO.skip rfl rfl rfl rfl ?_
        refine WO.pickF rfl rfl rfl rfl rfl ?_
        refine WO.move rfl rfl rfl rfl ?_
        refine WO.skip rfl rfl rfl rfl ?_
        refine WO.skip rfl rfl rfl rfl ?_
        refine WO.pickF rfl rfl rfl rfl rfl ?_
        refine WO.assign rfl rfl rfl rfl ?_
        refine WO.done ?_
        refine At.seq_at ?_
        exact fun a w hc hs => ⟨false, hr, (hc.keep hc.nil (t := 6) rfl), hs⟩
    · have hr := cond_f hg3 hr
      refine WO.skip rfl rfl rfl rfl ?_
      refine WO.skip rfl rfl rfl rfl ?_
      refine WO.pickF rfl rfl rfl rfl rfl ?_
      refine WO.move rfl rfl rfl rfl ?_
      refine WO.skip rfl rfl rfl rfl ?_
      refine WO.skip rfl rfl rfl rfl ?_
      refine WO.pickF rfl rfl rfl rfl rfl ?_
      refine WO.move rfl rfl rfl rfl ?_
      refine WO.skip rfl rfl rfl rfl ?_
      refine WO.skip rfl rfl rfl rfl ?_
      refine WO.pickF rfl rfl rfl rfl rfl ?_
      refine WO.move rfl rfl rfl rfl ?_
      refine WO.skip rfl rfl rfl rfl ?_
      refine WO.skip rfl rfl rfl rfl ?_
      refine WO.pickF rfl rfl rfl rfl rfl ?_
      refine WO.move rfl rfl rfl rfl ?_
      refine WO.skip rfl rfl rfl rfl ?_
      refine WO.skip rfl rfl rfl rfl ?_
      refine WO.pickF rfl rfl rfl rfl rfl ?_
      refine WO.assign rfl rfl rfl rfl ?_
      refine WO.done ?_
      refine At.seq_at ?_
      exact fun a w hc hs => ⟨false, hr, (hc.keep hc.nil (t := 6) rfl), hs⟩
  · rintro a w ⟨v2, hr, hc, hs⟩
    refine WC.use hc hs ?_
    clear hc hs
    unfold ref16_Right_k1 at hr
    refine WC.ret ?_
    obtain rfl := Option.some.inj hr
    exact At.ret (fun a w hc hs => (resVs_cons (hc.res rfl) resVs_nil)) (fun w hs => ⟨rfl, hs⟩)
/-! (peloton/pelotonlaw16.Act).small -/
def law16_Act_small_k2  : Option Bool := some true
def law16_Act_small_b3 (p0 : S_law16_Act) (v17 : Int) : Option (Int ⊕ (Lp Bool Unit)) := cond (decide (v17 < (p0.Bodies.length : Int))) ((getI p0.Bodies v17).bind fun x22 => cond (decide ((x22.length : Int) > 500)) (some (.inr (.ret false))) (some (.inl (IntKind.wrap .i64 (v17 + 1))))) (some (.inr (.brk ())))
def law16_Act_small_k1 (p0 : S_law16_Act) (v10 : Bool) : Option Bool := cond v10 (some false) ((loopO (fun s => law16_Act_small_b3 p0 s) 0).bind (fun | .ret r => some r | .brk _ => law16_Act_small_k2 ))
def law16_Act_small (p0 : S_law16_Act) : Option Bool := cond (decide ((p0.Bodies.length : Int) > 20)) (law16_Act_small_k1 p0 true) (law16_Act_small_k1 p0 (decide ((p0.S.Body.length : Int) > 500)))
theorem law16_Act_small_ok {F : Mem} {χ : List Chunk} {p0 : S_law16_Act} {cs_0 : List Value} (h_0 : R_law16_Act (Mem.add F χ) cs_0 p0) {r : Bool} (hr : law16_Act_small p0 = some r) (Φ : List (List Chunk)) :
    CallsRet Try.prog 12 (List.toArray [.agg cs_0.toArray]) (Mem.add F χ) Φ (fun v w => v = .bool r ∧ Sat (Mem.add F χ) (Φ) w) := by
  obtain ⟨a1, c2, a4, c5, rfl, h3, h6⟩ := h_0
  refine CallsRet.enter (rs := [.tmp 2]) Try.func12 rfl rfl rfl rfl ?_
  unfold law16_Act_small at hr
  refine WC.then ?_
  refine WC.region [(0, false), (1, true)] rfl ?_
  refine WO.box rfl rfl rfl rfl rfl (fun _ _ _ => trivial) (fun b7 => ?_)
  refine WO.assign rfl rfl rfl rfl ?_
  refine WO.done ?_
  refine At.seq_wc ?_
  refine WC.then ?_
  refine WC.seq (fun a w => ∃ (v10 : Bool), law16_Act_small_k1 p0 v10 = some r ∧ Ctx 29 [(1, .pointer (some ⟨b7, 0, none⟩)), (14, .bool v10)] a ∧ Sat (Mem.add F χ) ([(b7, row [.int .i64 p0.Kind, .int .i64 p0.N, .slice a1 p0.Bodies.length c2, .int .i64 p0.S.Epoch, .int .i64 p0.S.Seq, .int .i64 p0.S.Ack, .slice a4 p0.S.Body.length c5] 57)] :: Φ) w) ?_ ?_
  · refine WC.region [(0, true), (1, false), (2, true), (3, true), (4, true), (5, true), (6, true), (7, false), (8, true), (9, true), (10, true)] rfl ?_
    refine WO.fieldAddr 2 rfl rfl rfl rfl fl_57_2 ?_
    refine WO.load 0 rfl rfl rfl rfl sc_55 rfl rfl ?_
    refine WO.len rfl rfl rfl rfl Try.underlying55 ?_
    refine WO.bin rfl rfl rfl rfl rfl rfl ?_
    refine WO.move rfl rfl rfl rfl ?_
    refine WO.split (t := 8) rfl (fun hg31 => ?_) (fun hg31 => ?_)
    · have hr := cond_t hg31 hr
      refine WO.skip rfl rfl rfl rfl ?_
      refine WO.skip rfl rfl rfl rfl ?_
      refine WO.skipF rfl rfl rfl rfl ?_
      refine WO.skip rfl rfl rfl rfl ?_
      refine WO.skip rfl rfl rfl rfl ?_
      refine WO.pickT rfl rfl rfl rfl rfl ?_
      refine WO.done ?_
      refine At.seq_at ?_
      exact fun a w hc hs => ⟨true, hr, (hc.keep (hc.keep hc.nil (t := 14) rfl) (t := 1) rfl), hs⟩
    · have hr := cond_f hg31 hr
      refine WO.fieldAddr 3 rfl rfl rfl rfl fl_57_3 ?_
      refine WO.fieldAddr 3 rfl rfl rfl rfl fl_46_3 ?_
      refine WO.load 0 rfl rfl rfl rfl sc_38 rfl rfl ?_
      refine WO.len rfl rfl rfl rfl Try.underlying38 ?_
      refine WO.bin rfl rfl rfl rfl rfl rfl ?_
      refine WO.pickF rfl rfl rfl rfl rfl ?_
      refine WO.done ?_
      refine At.seq_at ?_
      exact fun a w hc hs => ⟨(decide ((p0.S.Body.length : Int) > 500)), hr, (hc.keep (hc.keep hc.nil (t := 14) rfl) (t := 1) rfl), hs⟩
  · rintro a w ⟨v10, hr, hc, hs⟩
    refine WC.use hc hs ?_
    clear hc hs
    unfold law16_Act_small_k1 at hr
    refine WC.cond rfl (fun hb11 => ?_) (fun hb11 => ?_)
    · have hr := cond_t hb11 hr
      refine WC.then ?_
      refine WC.region [(0, true)] rfl ?_
      refine WO.assign rfl rfl rfl rfl ?_
      refine WO.done ?_
      refine At.seq_wc ?_
      refine WC.ret ?_
      refine At.seq_ret ?_
      obtain rfl := Option.some.inj hr
      exact At.ret (fun a w hc hs => (resVs_cons (hc.res rfl) resVs_nil)) (fun w hs => ⟨rfl, (hs.arrange 1 1 [0] [] (by decide))⟩)
    · have hr := cond_f hb11 hr
      refine WC.skip ?_
      refine At.seq_wc ?_
      refine WC.seq (fun a w => law16_Act_small_k2  = some r ∧ Ctx 29 [] a ∧ Sat (Mem.add F χ) ([(b7, row [.int .i64 p0.Kind, .int .i64 p0.N, .slice a1 p0.Bodies.length c2, .int .i64 p0.S.Epoch, .int .i64 p0.S.Seq, .int .i64 p0.S.Ack, .slice a4 p0.S.Body.length c5] 57)] :: Φ) w) ?_ ?_
      · refine WC.then ?_
        refine WC.region [(0, true)] rfl ?_
        refine WO.assign rfl rfl rfl rfl ?_
        refine WO.done ?_
        refine At.seq_wc ?_
        obtain ⟨xl4, hl4, hk4⟩ := bind_some' hr
        refine WC.weaken (fun a w => .brk () = xl4 ∧ Ctx 29 [] a ∧ Sat (Mem.add F χ) ([(b7, row [.int .i64 p0.Kind, .int .i64 p0.N, .slice a1 p0.Bodies.length c2, .int .i64 p0.S.Epoch, .int .i64 p0.S.Seq, .int .i64 p0.S.Ack, .slice a4 p0.S.Body.length c5] 57)] :: Φ) w) ?_ ?_
        · refine WC.block ?_
          refine WC.loop (fun (v17 : Int) a w => Ctx 29 [(1, .pointer (some ⟨b7, 0, none⟩)), (3, .int .i64 v17)] a ∧ Sat (Mem.add F χ) ([(b7, row [.int .i64 p0.Kind, .int .i64 p0.N, .slice a1 p0.Bodies.length c2, .int .i64 p0.S.Epoch, .int .i64 p0.S.Seq, .int .i64 p0.S.Ack, .slice a4 p0.S.Body.length c5] 57)] :: Φ) w) hl4 ?_ ?_
          · exact fun a w hc hs => ⟨(hc.keep (hc.keep hc.nil (t := 3) rfl) (t := 1) rfl), hs⟩
          · rintro v17 r4 hr a w ⟨hc, hs⟩
            refine WC.use hc hs ?_
            clear hc hs
            (try dsimp only at hr)
            unfold law16_Act_small_b3 at hr
            refine WC.then ?_
            refine WC.then ?_
            refine WC.region [(0, true), (1, true), (2, false), (3, true), (4, true)] rfl ?_
            refine WO.move rfl rfl rfl rfl ?_
            refine WO.fieldAddr 2 rfl rfl rfl rfl fl_57_2 ?_
            refine WO.load 0 rfl rfl rfl rfl sc_55 rfl rfl ?_
            refine WO.len rfl rfl rfl rfl Try.underlying55 ?_
            refine WO.bin rfl rfl rfl rfl rfl rfl ?_
            refine WO.done ?_
            refine At.seq_wc ?_
            refine WC.cond rfl (fun hb21 => ?_) (fun hb21 => ?_)
            · have hr := cond_t hb21 hr
              refine WC.skip ?_
              refine At.seq_wc ?_
              refine WC.then ?_
              refine WC.block ?_
              refine WC.then ?_
              refine WC.region [(0, true), (1, false), (2, true), (3, true), (4, false), (5, true), (6, true)] rfl ?_
              refine WO.fieldAddr 2 rfl rfl rfl rfl fl_57_2 ?_
              refine WO.load 0 rfl rfl rfl rfl sc_55 rfl rfl ?_
              refine WO.move rfl rfl rfl rfl ?_
              obtain ⟨x22, hx23, hr⟩ := bind_some' hr
              refine WO.indexR h3 hx23 rfl rfl rfl rfl rfl rfl Try.underlying55 sz_38 ?_
              rintro b24 o25 _ hc26 ⟨a27, c28, rfl, h29⟩
              refine WO.loadPn 0 hc26 rfl rfl rfl rfl rfl sc_38 rfl ?_
              refine WO.len rfl rfl rfl rfl Try.underlying38 ?_
              refine WO.bin rfl rfl rfl rfl rfl rfl ?_
              refine WO.done ?_
              refine At.seq_wc ?_
              refine WC.cond rfl (fun hb30 => ?_) (fun hb30 => ?_)
              · have hr := cond_t hb30 hr
                refine WC.then ?_
                refine WC.region [(0, true)] rfl ?_
                refine WO.assign rfl rfl rfl rfl ?_
                refine WO.done ?_
                refine At.seq_wc ?_
                refine WC.ret ?_
                refine At.block_ret ?_
                refine At.seq_ret ?_
                refine At.round_ret hr (fun hy => ?_)
                subst hy
                have hr := hk4
                refine At.block_ret ?_
                refine At.seq_ret ?_
                refine At.seq_ret ?_
                obtain rfl := Option.some.inj hr
                exact At.ret (fun a w hc hs => (resVs_cons (hc.res rfl) resVs_nil)) (fun w hs => ⟨rfl, (hs.arrange 1 1 [0] [] (by decide))⟩)
              · have hr := cond_f hb30 hr
                refine WC.skip ?_
                refine At.block_normal ?_
                refine At.seq_wc ?_
                refine WC.region [(0, true), (1, true), (2, true)] rfl ?_
                refine WO.move rfl rfl rfl rfl ?_
                refine WO.bin rfl rfl rfl rfl rfl rfl ?_
                refine WO.assign rfl rfl rfl rfl ?_
                refine WO.done ?_
                refine At.round_next hr ?_
                exact fun a w hc hs => ⟨(hc.keep (hc.keep hc.nil (t := 3) rfl) (t := 1) rfl), hs⟩
            · have hr := cond_f hb21 hr
              refine WC.exit ?_
              refine At.seq_exit ?_
              refine At.round_exit hr (fun hy => ?_)
              refine At.exit_block ?_
              refine At.seq_at ?_
              exact fun a w hc hs => ⟨hy, hc.nil, hs⟩
        · rintro a w ⟨rfl, hc, hs⟩
          refine At.use hc hs ?_
          clear hc hs
          (try dsimp only at hk4)
          have hr := hk4
          refine At.seq_at ?_
          exact fun a w hc hs => ⟨hr, hc.nil, hs⟩
      · rintro a w ⟨hr, hc, hs⟩
        refine WC.use hc hs ?_
        clear hc hs
        unfold law16_Act_small_k2 at hr
        refine WC.then ?_
        refine WC.region [(0, true)] rfl ?_
        refine WO.assign rfl rfl rfl rfl ?_
        refine WO.done ?_
        refine At.seq_wc ?_
        refine WC.ret ?_
        obtain rfl := Option.some.inj hr
        exact At.ret (fun a w hc hs => (resVs_cons (hc.res rfl) resVs_nil)) (fun w hs => ⟨rfl, (hs.arrange 1 1 [0] [] (by decide))⟩)
/-! (*peloton/pelotonref16.Link).Send -/
def ref16_Link_Send_vvvvvvvvoov_k2 (v8 : S_ref16_Link) : Option (Int × S_ref16_Link) := some (0, v8)
def ref16_Link_Send_vvvvvvvvoov_b3 (v2 : List (List Int)) (v34 : Int) (v35 : S_ref16_Link) : Option ((Int × S_ref16_Link) ⊕ S_ref16_Link) := cond (decide (v34 < (v2.length : Int))) ((getI v2 v34).bind fun x72 => (app ([] : List Int) x72).bind fun x84 => (app v35.Out [(⟨(IntKind.wrap .i64 (v35.Next + 1)), (-1), x84⟩ : S_ref16_Body)]).bind fun x93 => some (.inl ((IntKind.wrap .i64 (v34 + 1)), (⟨v35.Window, v35.Span, v35.Room, v35.Epoch, (IntKind.wrap .i64 (v35.Next + 1)), v35.Acked, v35.Sent, v35.Got, x93, v35.Early, v35.Owes⟩ : S_ref16_Link)))) (some (.inr v35))
def ref16_Link_Send_vvvvvvvvoov_k1 (p0 : S_ref16_Link) (v2 : List (List Int)) : Option (Int × S_ref16_Link) := cond (decide ((IntKind.wrap .i64 ((p0.Out.length : Int) + (v2.length : Int))) > p0.Room)) (some (80, p0)) ((loopO (fun s => ref16_Link_Send_vvvvvvvvoov_b3 v2 s.1 s.2) (0, p0)).bind (fun v60 => ref16_Link_Send_vvvvvvvvoov_k2 v60))
def ref16_Link_Send_vvvvvvvvoov_b5 (p0 : S_ref16_Link) (p1 : List (List Int)) (v103 : Int) : Option (Int ⊕ (Lp (Int × S_ref16_Link) Unit)) := cond (decide (v103 < (p1.length : Int))) ((getI p1 v103).bind fun x108 => cond (decide ((x108.length : Int) > 65536)) (some (.inr (.ret (140, p0)))) (some (.inl (IntKind.wrap .i64 (v103 + 1))))) (some (.inr (.brk ())))
def ref16_Link_Send_vvvvvvvvoov (p0 : S_ref16_Link) (p1 : List (List Int)) : Option (Int × S_ref16_Link) := (loopO (fun s => ref16_Link_Send_vvvvvvvvoov_b5 p0 p1 s) 0).bind (fun | .ret r => some r | .brk _ => ref16_Link_Send_vvvvvvvvoov_k1 p0 p1)
theorem ref16_Link_Send_vvvvvvvvoov_ok {F : Mem} {χ : List Chunk} {p0 : S_ref16_Link} {p1 : List (List Int)} {b_0 : Nat} {a_0_8 : Option Addr} {c_0_8 : Nat} {ψ_0_8 : List Chunk} (ho_0_8 : OwnL 3 R_ref16_Body F 81 a_0_8 c_0_8 p0.Out ψ_0_8) {a_0_9 : Option Addr} {c_0_9 : Nat} {ψ_0_9 : List Chunk} (ho_0_9 : OwnL 2 R_ref16_Early F 88 a_0_9 c_0_9 p0.Early ψ_0_9) {a_1 : Option Addr} {c_1 : Nat} (h_1 : RdL 1 (RSl 1 (RInt .u8)) (Mem.add F χ) a_1 c_1 p1) {r : Int × S_ref16_Link} (hr : ref16_Link_Send_vvvvvvvvoov p0 p1 = some r) (Φ : List (List Chunk)) :
    CallsRet Try.prog 14 (List.toArray [.pointer (some ⟨b_0, 0, none⟩), .slice a_1 p1.length c_1]) (Mem.add F χ) ([(b_0, row [.int .i64 p0.Window, .int .i64 p0.Span, .int .i64 p0.Room, .int .i64 p0.Epoch, .int .i64 p0.Next, .int .i64 p0.Acked, .int .i64 p0.Sent, .int .i64 p0.Got, .slice a_0_8 p0.Out.length c_0_8, .slice a_0_9 p0.Early.length c_0_9, .bool p0.Owes] 54)] :: ψ_0_8 :: ψ_0_9 :: Φ) (fun v w => ∃ ψm a0_8 c0_8 ψ0_8 a0_9 c0_9 ψ0_9, v = .int .i64 r.1 ∧ Sat (Mem.add (Mem.add F χ) ψm) ([(b_0, row [.int .i64 r.2.Window, .int .i64 r.2.Span, .int .i64 r.2.Room, .int .i64 r.2.Epoch, .int .i64 r.2.Next, .int .i64 r.2.Acked, .int .i64 r.2.Sent, .int .i64 r.2.Got, .slice a0_8 r.2.Out.length c0_8, .slice a0_9 r.2.Early.length c0_9, .bool r.2.Owes] 54)] :: ψ0_8 :: ψ0_9 :: Φ) w ∧ OwnL 3 R_ref16_Body (Mem.add F ψm) 81 a0_8 c0_8 r.2.Out ψ0_8 ∧ OwnL 2 R_ref16_Early (Mem.add F ψm) 88 a0_9 c0_9 r.2.Early ψ0_9) := by
  refine CallsRet.enter (rs := [.tmp 4]) Try.func14 rfl rfl rfl rfl ?_
  unfold ref16_Link_Send_vvvvvvvvoov at hr
  refine WC.then ?_
  refine WC.region [(0, true)] rfl ?_
  refine WO.assign rfl rfl rfl rfl ?_
  refine WO.done ?_
  refine At.seq_wc ?_
  refine WC.seq (fun a w => ∃ (v2 : List (List Int)) (a3 : Option Addr) (c4 : Nat), ref16_Link_Send_vvvvvvvvoov_k1 p0 v2 = some r ∧ Ctx 66 [(0, .pointer (some ⟨b_0, 0, none⟩)), (1, .slice a3 v2.length c4)] a ∧ Sat (Mem.add F χ) ([(b_0, row [.int .i64 p0.Window, .int .i64 p0.Span, .int .i64 p0.Room, .int .i64 p0.Epoch, .int .i64 p0.Next, .int .i64 p0.Acked, .int .i64 p0.Sent, .int .i64 p0.Got, .slice a_0_8 p0.Out.length c_0_8, .slice a_0_9 p0.Early.length c_0_9, .bool p0.Owes] 54)] :: ψ_0_8 :: ψ_0_9 :: Φ) w ∧ RdL 1 (RSl 1 (RInt .u8)) (Mem.add F χ) a3 c4 v2) ?_ ?_
  · refine WC.then ?_
    refine WC.region [(0, true)] rfl ?_
    refine WO.assign rfl rfl rfl rfl ?_
    refine WO.done ?_
    refine At.seq_wc ?_
    obtain ⟨xl6, hl6, hk6⟩ := bind_some' hr
    refine WC.weaken (fun a w => .brk () = xl6 ∧ Ctx 66 [(0, .pointer (some ⟨b_0, 0, none⟩)), (1, .slice a_1 p1.length c_1)] a ∧ Sat (Mem.add F χ) ([(b_0, row [.int .i64 p0.Window, .int .i64 p0.Span, .int .i64 p0.Room, .int .i64 p0.Epoch, .int .i64 p0.Next, .int .i64 p0.Acked, .int .i64 p0.Sent, .int .i64 p0.Got, .slice a_0_8 p0.Out.length c_0_8, .slice a_0_9 p0.Early.length c_0_9, .bool p0.Owes] 54)] :: ψ_0_8 :: ψ_0_9 :: Φ) w) ?_ ?_
    · refine WC.block ?_
      refine WC.loop (fun (v103 : Int) a w => Ctx 66 [(0, .pointer (some ⟨b_0, 0, none⟩)), (1, .slice a_1 p1.length c_1), (5, .int .i64 v103)] a ∧ Sat (Mem.add F χ) ([(b_0, row [.int .i64 p0.Window, .int .i64 p0.Span, .int .i64 p0.Room, .int .i64 p0.Epoch, .int .i64 p0.Next, .int .i64 p0.Acked, .int .i64 p0.Sent, .int .i64 p0.Got, .slice a_0_8 p0.Out.length c_0_8, .slice a_0_9 p0.Early.length c_0_9, .bool p0.Owes] 54)] :: ψ_0_8 :: ψ_0_9 :: Φ) w) hl6 ?_ ?_
      · exact fun a w hc hs => ⟨(hc.keep (hc.keep (hc.keep hc.nil (t := 5) rfl) (t := 1) rfl) (t := 0) rfl), hs⟩
      · rintro v103 r6 hr a w ⟨hc, hs⟩
        refine WC.use hc hs ?_
        clear hc hs
        (try dsimp only at hr)
        unfold ref16_Link_Send_vvvvvvvvoov_b5 at hr
        refine WC.then ?_
        refine WC.then ?_
        refine WC.region [(0, true), (1, true), (2, true), (3, true)] rfl ?_
        refine WO.move rfl rfl rfl rfl ?_
        refine WO.move rfl rfl rfl rfl ?_
        refine WO.len rfl rfl rfl rfl Try.underlying55 ?_
        refine WO.bin rfl rfl rfl rfl rfl rfl ?_
        refine WO.done ?_
        refine At.seq_wc ?_
        refine WC.cond rfl (fun hb107 => ?_) (fun hb107 => ?_)
        · have hr := cond_t hb107 hr
          refine WC.skip ?_
          refine At.seq_wc ?_
          refine WC.then ?_
          refine WC.block ?_
          refine WC.then ?_
          refine WC.region [(0, true), (1, true), (2, true), (3, false), (4, true), (5, true)] rfl ?_
          refine WO.move rfl rfl rfl rfl ?_
          refine WO.move rfl rfl rfl rfl ?_
          obtain ⟨x108, hx109, hr⟩ := bind_some' hr
          refine WO.indexR h_1 hx109 rfl rfl rfl rfl rfl rfl Try.underlying55 sz_38 ?_
          rintro b110 o111 _ hc112 ⟨a113, c114, rfl, h115⟩
          refine WO.loadPn 0 hc112 rfl rfl rfl rfl rfl sc_38 rfl ?_
          refine WO.len rfl rfl rfl rfl Try.underlying38 ?_
          refine WO.bin rfl rfl rfl rfl rfl rfl ?_
          refine WO.done ?_
          refine At.seq_wc ?_
          refine WC.cond rfl (fun hb116 => ?_) (fun hb116 => ?_)
          · have hr := cond_t hb116 hr
            refine WC.then ?_
            refine WC.region [(0, true)] rfl ?_
            refine WO.assign rfl rfl rfl rfl ?_
            refine WO.done ?_
            refine At.seq_wc ?_
            refine WC.ret ?_
            refine At.block_ret ?_
            refine At.seq_ret ?_
            refine At.round_ret hr (fun hy => ?_)
            subst hy
            have hr := hk6
            refine At.block_ret ?_
            refine At.seq_ret ?_
            refine At.seq_ret ?_
            obtain rfl := Option.some.inj hr
            exact At.ret (fun a w hc hs => (resVs_cons (hc.res rfl) resVs_nil)) (fun w hs => ⟨(List.flatten []), _, _, _, _, _, _, rfl, (hs.gather 0), (ho_0_8.mono mono_ref16_Body (Mem.le_gather F 0)), (ho_0_9.mono mono_ref16_Early (Mem.le_gather F 0))⟩)
          · have hr := cond_f hb116 hr
            refine WC.skip ?_
            refine At.block_normal ?_
            refine At.seq_wc ?_
            refine WC.region [(0, true), (1, true), (2, true)] rfl ?_
            refine WO.move rfl rfl rfl rfl ?_
            refine WO.bin rfl rfl rfl rfl rfl rfl ?_
            refine WO.assign rfl rfl rfl rfl ?_
            refine WO.done ?_
            refine At.round_next hr ?_
            exact fun a w hc hs => ⟨(hc.keep (hc.keep (hc.keep hc.nil (t := 5) rfl) (t := 1) rfl) (t := 0) rfl), hs⟩
        · have hr := cond_f hb107 hr
          refine WC.exit ?_
          refine At.seq_exit ?_
          refine At.round_exit hr (fun hy => ?_)
          refine At.exit_block ?_
          refine At.seq_at ?_
          exact fun a w hc hs => ⟨hy, (hc.keep (hc.keep hc.nil (t := 1) rfl) (t := 0) rfl), hs⟩
    · rintro a w ⟨rfl, hc, hs⟩
      refine At.use hc hs ?_
      clear hc hs
      (try dsimp only at hk6)
      have hr := hk6
      refine At.seq_at ?_
      exact fun a w hc hs => ⟨p1, a_1, c_1, hr, (hc.keep (hc.keep hc.nil (t := 1) rfl) (t := 0) rfl), hs, h_1⟩
  · rintro a w ⟨v2, a3, c4, hr, hc, hs, h5⟩
    refine WC.use hc hs ?_
    clear hc hs
    unfold ref16_Link_Send_vvvvvvvvoov_k1 at hr
    refine WC.then ?_
    refine WC.then ?_
    refine WC.draw (Sat (Mem.add F χ) ([(b_0, row [.int .i64 p0.Window, .int .i64 p0.Span, .int .i64 p0.Room, .int .i64 p0.Epoch, .int .i64 p0.Next, .int .i64 p0.Acked, .int .i64 p0.Sent, .int .i64 p0.Got, .slice a_0_8 p0.Out.length c_0_8, .slice a_0_9 p0.Early.length c_0_9, .bool p0.Owes] 54)] :: ψ_0_8 :: ψ_0_9 :: Φ)) (fun _ h => (h.arrange 1 3 [0] [1, 2, 3] (by decide))) [(0, true), (1, true), (2, true), (3, true), (4, true), (5, true), (6, true), (7, true), (8, true), (9, true), (10, true), (11, true), (12, true)] mixed (by kernel_rfl) rfl (by kernel_rfl) ?_
    refine WO.move rfl rfl rfl rfl ?_
    refine WO.nilCheck rfl rfl rfl rfl ?_
    refine WO.fieldAddr 8 rfl rfl rfl rfl fl_54_8 ?_
    refine WO.loadY 0 rfl rfl rfl rfl sc_51 rfl rfl ?_
    refine WO.len rfl rfl rfl rfl Try.underlying51 ?_
    refine WO.move rfl rfl rfl rfl ?_
    refine WO.len rfl rfl rfl rfl Try.underlying55 ?_
    refine WO.bin rfl rfl rfl rfl rfl rfl ?_
    refine WO.move rfl rfl rfl rfl ?_
    refine WO.nilCheck rfl rfl rfl rfl ?_
    refine WO.fieldAddr 2 rfl rfl rfl rfl fl_54_2 ?_
    refine WO.loadY 0 rfl rfl rfl rfl sc_3 rfl rfl ?_
    refine WO.bin rfl rfl rfl rfl rfl rfl ?_
    refine WO.done ?_
    refine At.seq_wc ?_
    refine WC.cond rfl (fun hb6 => ?_) (fun hb6 => ?_)
    · have hr := cond_t hb6 hr
      refine WC.then ?_
      refine WC.region [(0, true)] rfl ?_
      refine WO.assign rfl rfl rfl rfl ?_
      refine WO.done ?_
      refine At.seq_wc ?_
      refine WC.ret ?_
      refine At.seq_ret ?_
      obtain rfl := Option.some.inj hr
      exact At.ret (fun a w hc hs => (resVs_cons (hc.res rfl) resVs_nil)) (fun w hs => ⟨(List.flatten []), _, _, _, _, _, _, rfl, (hs.gather 0), (ho_0_8.mono mono_ref16_Body (Mem.le_gather F 0)), (ho_0_9.mono mono_ref16_Early (Mem.le_gather F 0))⟩)
    · have hr := cond_f hb6 hr
      refine WC.skip ?_
      refine At.seq_wc ?_
      refine WC.seq (fun a w => ∃ (v8 : S_ref16_Link) (a9 : Option Addr) (c10 : Nat) (p11 : List Chunk) (a14 : Option Addr) (c15 : Nat) (p16 : List Chunk) (w7 : List Chunk), ref16_Link_Send_vvvvvvvvoov_k2 v8 = some r ∧ Ctx 66 [] a ∧ Sat (Mem.add (Mem.add F χ) w7) (p11 :: p16 :: [(b_0, row [.int .i64 v8.Window, .int .i64 v8.Span, .int .i64 v8.Room, .int .i64 v8.Epoch, .int .i64 v8.Next, .int .i64 v8.Acked, .int .i64 v8.Sent, .int .i64 v8.Got, .slice a9 v8.Out.length c10, .slice a14 v8.Early.length c15, .bool v8.Owes] 54)] :: Φ) w ∧ OwnL 3 R_ref16_Body (Mem.add F w7) 81 a9 c10 v8.Out p11 ∧ OwnL 2 R_ref16_Early F 88 a14 c15 v8.Early p16) ?_ ?_
      · refine WC.then ?_
        refine WC.region [(0, true)] rfl ?_
        refine WO.assign rfl rfl rfl rfl ?_
        refine WO.done ?_
        refine At.seq_wc ?_
        obtain ⟨xl4, hl4, hk4⟩ := bind_some' hr
        refine WC.weaken (fun a w => ∃ (v60 : S_ref16_Link) (a61 : Option Addr) (c62 : Nat) (p63 : List Chunk) (a66 : Option Addr) (c67 : Nat) (p68 : List Chunk) (w59 : List Chunk), v60 = xl4 ∧ Ctx 66 [] a ∧ Sat (Mem.add (Mem.add F χ) w59) (p63 :: p68 :: [(b_0, row [.int .i64 v60.Window, .int .i64 v60.Span, .int .i64 v60.Room, .int .i64 v60.Epoch, .int .i64 v60.Next, .int .i64 v60.Acked, .int .i64 v60.Sent, .int .i64 v60.Got, .slice a61 v60.Out.length c62, .slice a66 v60.Early.length c67, .bool v60.Owes] 54)] :: Φ) w ∧ OwnL 3 R_ref16_Body (Mem.add F w59) 81 a61 c62 v60.Out p63 ∧ OwnL 2 R_ref16_Early F 88 a66 c67 v60.Early p68) ?_ ?_
        · refine WC.block ?_
          refine WC.loop (fun ⟨v34, v35⟩ a w => ∃ (a36 : Option Addr) (c37 : Nat) (p38 : List Chunk) (a41 : Option Addr) (c42 : Nat) (p43 : List Chunk) (w33 : List Chunk), Ctx 66 [(0, .pointer (some ⟨b_0, 0, none⟩)), (1, .slice a3 v2.length c4), (6, .int .i64 v34)] a ∧ Sat (Mem.add (Mem.add F χ) w33) (p38 :: p43 :: [(b_0, row [.int .i64 v35.Window, .int .i64 v35.Span, .int .i64 v35.Room, .int .i64 v35.Epoch, .int .i64 v35.Next, .int .i64 v35.Acked, .int .i64 v35.Sent, .int .i64 v35.Got, .slice a36 v35.Out.length c37, .slice a41 v35.Early.length c42, .bool v35.Owes] 54)] :: Φ) w ∧ OwnL 3 R_ref16_Body (Mem.add F w33) 81 a36 c37 v35.Out p38 ∧ OwnL 2 R_ref16_Early F 88 a41 c42 v35.Early p43) hl4 ?_ ?_
          · exact fun a w hc hs => ⟨a_0_8, c_0_8, ψ_0_8, a_0_9, c_0_9, ψ_0_9, (List.flatten []), (hc.keep (hc.keep (hc.keep hc.nil (t := 6) rfl) (t := 1) rfl) (t := 0) rfl), ((hs.arrange 1 3 [0] [2, 3, 1] (by decide)).gather 0), (ho_0_8.mono mono_ref16_Body (Mem.le_gather F 0)), ho_0_9⟩
          · rintro ⟨v34, v35⟩ r4 hr a w ⟨a36, c37, p38, a41, c42, p43, w33, hc, hs, ho39, ho44⟩
            refine WC.use hc hs ?_
            clear hc hs
            (try dsimp only at hr)
            unfold ref16_Link_Send_vvvvvvvvoov_b3 at hr
            refine WC.then ?_
            refine WC.then ?_
            refine WC.region [(0, true), (1, true), (2, true), (3, true)] rfl ?_
            refine WO.move rfl rfl rfl rfl ?_
            refine WO.move rfl rfl rfl rfl ?_
            refine WO.len rfl rfl rfl rfl Try.underlying55 ?_
            refine WO.bin rfl rfl rfl rfl rfl rfl ?_
            refine WO.done ?_
            refine At.seq_wc ?_
            refine WC.cond rfl (fun hb71 => ?_) (fun hb71 => ?_)
            · have hr := cond_t hb71 hr
              refine WC.skip ?_
              refine At.seq_wc ?_
              refine WC.then ?_
              refine WC.block ?_
              refine WC.then ?_
              refine WC.region [(0, true), (1, true), (2, true), (3, true), (4, false), (5, true), (6, true), (7, true), (8, false)] rfl ?_
              refine WO.move rfl rfl rfl rfl ?_
              refine WO.move rfl rfl rfl rfl ?_
              refine WO.nilCheck rfl rfl rfl rfl ?_
              refine WO.fieldAddr 4 rfl rfl rfl rfl fl_54_4 ?_
              refine WO.load 2 rfl rfl rfl rfl sc_3 rfl rfl ?_
              refine WO.bin rfl rfl rfl rfl rfl rfl ?_
              refine WO.nilCheck rfl rfl rfl rfl ?_
              refine WO.fieldAddr 4 rfl rfl rfl rfl fl_54_4 ?_
              refine WO.store 2 rfl rfl rfl rfl sz_3 rfl rfl rfl (fun _ _ => trivial) ?_
              refine WO.done ?_
              refine At.seq_wc ?_
              refine WC.drawA (Sat (Mem.add (Mem.add F χ) w33) (Φ)) (fun _ h => (h.arrange 2 3 [0, 1] [] (by decide))) mixed rfl ?_
              refine WA.lin (fuel := 10) [(0, true), (1, true), (2, true), (3, true), (5, true), (6, true), (7, true), (10, true), (11, true), (12, true), (13, true)] (by kernel_rfl) (by kernel_rfl) ?_
              refine WO.move rfl rfl rfl rfl ?_
              refine WO.move rfl rfl rfl rfl ?_
              refine WO.nilCheck rfl rfl rfl rfl ?_
              refine WO.fieldAddr 8 rfl rfl rfl rfl fl_54_8 ?_
              refine WO.move rfl rfl rfl rfl ?_
              refine WO.nilCheck rfl rfl rfl rfl ?_
              refine WO.fieldAddr 4 rfl rfl rfl rfl fl_54_4 ?_
              refine WO.move rfl rfl rfl rfl ?_
              refine WO.move rfl rfl rfl rfl ?_
              obtain ⟨x72, hx73, hr⟩ := bind_some' hr
              refine WO.indexR h5 hx73 rfl rfl rfl rfl rfl rfl Try.underlying55 sz_38 ?_
              rintro b74 o75 _ hc76 ⟨a77, c78, rfl, h79⟩
              refine WO.loadP 0 (hc76.mono (Mem.le_pick (Mem.add (Mem.add F χ) w33) 2 [1] (by decide))) rfl rfl rfl rfl rfl sc_38 rfl ?_
              refine WO.done ?_
              refine WA.of ?_
              refine WA.three (fuel := 9) 4 8 9 (by kernel_rfl) ?_ ?_ ?_
              · refine WO.load 2 rfl rfl rfl rfl sc_51 rfl rfl ?_
                refine WO.done ?_
                refine WA.of ?_
                refine WA.two (fuel := 8) 8 9 (by kernel_rfl) ?_ ?_
                · refine WO.load 2 rfl rfl rfl rfl sc_3 rfl rfl ?_
                  refine WO.done ?_
                  refine WA.of ?_
                  refine WA.lin (fuel := 0) [(9, false), (14, false), (15, true), (16, false), (17, false), (18, true), (19, true), (20, false)] (by kernel_rfl) (by kernel_rfl) ?_
                  refine WO.buildSl (e := 5) (vs := []) [] [] rfl rfl rfl rfl rfl (fun _ => by kernel_rfl) (fun _ _ h => (h.arrange 2 4 [0, 1] [] (by decide))) (fun b80 => ?_)
                  have ho82 : OwnL 1 (RInt .u8) F 5 (some ⟨b80, 0, none⟩) 0 ([] : List Int) [(b80, row [] 5)] := ⟨Nat.le_refl _, .inr ⟨_, [], [], rfl, rfl, Rs.nil, rfl⟩⟩
                  obtain ⟨x84, hx85, hr⟩ := bind_some' hr
                  refine WO.append 0 (OwnL.re (G := (Mem.add F χ)) (const_int _) ho82) rfl (SrcL.ofRd Try.underlying38 h79 (Mem.le_pick (Mem.add (Mem.add F χ) w33) 2 [1] (by decide))) hx85 rfl rfl rfl rfl rfl rfl Try.underlying38 el_5 (fun _ _ h => (h.arrange 2 4 [0, 1] [] (by decide))) (fun a86 c87 p88 ho89 => ?_)
                  refine WO.build (vs := [.tmp 54, .const (.int .i64 (-1)), .tmp 60]) [0, 1, 2] (.agg (List.toArray [.int .i64 (IntKind.wrap .i64 (v35.Next + 1)), .int .i64 (-1), .slice a86 x84.length c87])) rfl rfl rfl rfl rfl (fun _ => by kernel_rfl) ?_
                  refine WO.buildSl (e := 81) (vs := [.tmp 61]) [0] [.int .i64 (IntKind.wrap .i64 (v35.Next + 1)), .int .i64 (-1), .slice a86 x84.length c87] rfl rfl rfl rfl rfl (fun _ => by kernel_rfl) (fun _ _ h => (h.arrange 2 5 [0, 1] [] (by decide))) (fun b90 => ?_)
                  refine WO.freeze 1 rfl ?_
                  have hz92 := (OwnL.re (G := F) (const_int _) ho89).rd (mono_int _)
                  obtain ⟨x93, hx94, hr⟩ := bind_some' hr
                  refine WO.append 1 (ho39.mono mono_ref16_Body (Mem.le_pick (Mem.add (Mem.add F w33) p88) 2 [1] (by decide))) rfl (SrcL.ofRow 0 Try.underlying51 [[.int .i64 (IntKind.wrap .i64 (v35.Next + 1)), .int .i64 (-1), .slice a86 x84.length c87]] rfl rfl rfl (Rs.cons (x := (⟨(IntKind.wrap .i64 (v35.Next + 1)), (-1), x84⟩ : S_ref16_Body)) (cs := [.int .i64 (IntKind.wrap .i64 (v35.Next + 1)), .int .i64 (-1), .slice a86 x84.length c87]) rfl ⟨_, _, rfl, (hz92.mono (mono_int _) (Mem.le_pick (Mem.add (Mem.add F w33) p88) 2 [0] (by decide)))⟩ rfl Rs.nil)) hx94 rfl rfl rfl rfl rfl rfl Try.underlying51 el_81 (fun _ _ h => (h.arrange 3 4 [1, 2] [] (by decide))) (fun a95 c96 p97 ho98 => ?_)
                  refine WO.nilCheck rfl rfl rfl rfl ?_
                  refine WO.fieldAddr 8 rfl rfl rfl rfl fl_54_8 ?_
                  refine WO.store 3 rfl rfl rfl rfl sz_51 rfl rfl rfl (fun _ h => (h.arrange 3 4 [1, 2] [] (by decide))) ?_
                  refine WO.done ?_
                  refine WA.of ?_
                  refine WA.done (by kernel_rfl) ?_
                  refine At.block_normal ?_
                  refine At.seq_wc ?_
                  refine WC.region [(0, true), (1, true), (2, true)] rfl ?_
                  refine WO.move rfl rfl rfl rfl ?_
                  refine WO.bin rfl rfl rfl rfl rfl rfl ?_
                  refine WO.assign rfl rfl rfl rfl ?_
                  refine WO.done ?_
                  refine At.round_next hr ?_
                  exact fun a w hc hs => ⟨a95, c96, p97, a41, c42, p43, (List.flatten [p88, w33]), (hc.keep (hc.keep (hc.keep hc.nil (t := 6) rfl) (t := 1) rfl) (t := 0) rfl), ((hs.arrange 3 4 [0, 1, 2] [4, 5, 6] (by decide)).gather 2), (ho98.mono mono_ref16_Body (Mem.le_gather (Mem.add (Mem.add F w33) p88) 2)), ho44⟩
                · refine WO.buildSl (e := 5) (vs := []) [] [] rfl rfl rfl rfl rfl (fun _ => by kernel_rfl) (fun _ _ h => (h.arrange 2 4 [0, 1] [] (by decide))) (fun b80 => ?_)
                  refine WO.done ?_
                  refine WA.of ?_
                  refine WA.two (fuel := 7) 8 14 (by kernel_rfl) ?_ ?_
                  · refine WO.load 3 rfl rfl rfl rfl sc_3 rfl rfl ?_
                    refine WO.done ?_
                    refine WA.of ?_
                    refine WA.lin (fuel := 0) [(14, false), (15, true), (16, false), (17, false), (18, true), (19, true), (20, false)] (by kernel_rfl) (by kernel_rfl) ?_
                    have ho82 : OwnL 1 (RInt .u8) F 5 (some ⟨b80, 0, none⟩) 0 ([] : List Int) [(b80, row [] 5)] := ⟨Nat.le_refl _, .inr ⟨_, [], [], rfl, rfl, Rs.nil, rfl⟩⟩
                    obtain ⟨x84, hx85, hr⟩ := bind_some' hr
                    refine WO.append 0 (OwnL.re (G := (Mem.add F χ)) (const_int _) ho82) rfl (SrcL.ofRd Try.underlying38 h79 (Mem.le_pick (Mem.add (Mem.add F χ) w33) 2 [1] (by decide))) hx85 rfl rfl rfl rfl rfl rfl Try.underlying38 el_5 (fun _ _ h => (h.arrange 2 4 [0, 1] [] (by decide))) (fun a86 c87 p88 ho89 => ?_)
                    refine WO.build (vs := [.tmp 54, .const (.int .i64 (-1)), .tmp 60]) [0, 1, 2] (.agg (List.toArray [.int .i64 (IntKind.wrap .i64 (v35.Next + 1)), .int .i64 (-1), .slice a86 x84.length c87])) rfl rfl rfl rfl rfl (fun _ => by kernel_rfl) ?_
                    refine WO.buildSl (e := 81) (vs := [.tmp 61]) [0] [.int .i64 (IntKind.wrap .i64 (v35.Next + 1)), .int .i64 (-1), .slice a86 x84.length c87] rfl rfl rfl rfl rfl (fun _ => by kernel_rfl) (fun _ _ h => (h.arrange 2 5 [0, 1] [] (by decide))) (fun b90 => ?_)
                    refine WO.freeze 1 rfl ?_
                    have hz92 := (OwnL.re (G := F) (const_int _) ho89).rd (mono_int _)
                    obtain ⟨x93, hx94, hr⟩ := bind_some' hr
                    refine WO.append 1 (ho39.mono mono_ref16_Body (Mem.le_pick (Mem.add (Mem.add F w33) p88) 2 [1] (by decide))) rfl (SrcL.ofRow 0 Try.underlying51 [[.int .i64 (IntKind.wrap .i64 (v35.Next + 1)), .int .i64 (-1), .slice a86 x84.length c87]] rfl rfl rfl (Rs.cons (x := (⟨(IntKind.wrap .i64 (v35.Next + 1)), (-1), x84⟩ : S_ref16_Body)) (cs := [.int .i64 (IntKind.wrap .i64 (v35.Next + 1)), .int .i64 (-1), .slice a86 x84.length c87]) rfl ⟨_, _, rfl, (hz92.mono (mono_int _) (Mem.le_pick (Mem.add (Mem.add F w33) p88) 2 [0] (by decide)))⟩ rfl Rs.nil)) hx94 rfl rfl rfl rfl rfl rfl Try.underlying51 el_81 (fun _ _ h => (h.arrange 3 4 [1, 2] [] (by decide))) (fun a95 c96 p97 ho98 => ?_)
                    refine WO.nilCheck rfl rfl rfl rfl ?_
                    refine WO.fieldAddr 8 rfl rfl rfl rfl fl_54_8 ?_
                    refine WO.store 3 rfl rfl rfl rfl sz_51 rfl rfl rfl (fun _ h => (h.arrange 3 4 [1, 2] [] (by decide))) ?_
                    refine WO.done ?_
                    refine WA.of ?_
                    refine WA.done (by kernel_rfl) ?_
                    refine At.block_normal ?_
                    refine At.seq_wc ?_
                    refine WC.region [(0, true), (1, true), (2, true)] rfl ?_
                    refine WO.move rfl rfl rfl rfl ?_
                    refine WO.bin rfl rfl rfl rfl rfl rfl ?_
                    refine WO.assign rfl rfl rfl rfl ?_
                    refine WO.done ?_
                    refine At.round_next hr ?_
                    exact fun a w hc hs => ⟨a95, c96, p97, a41, c42, p43, (List.flatten [p88, w33]), (hc.keep (hc.keep (hc.keep hc.nil (t := 6) rfl) (t := 1) rfl) (t := 0) rfl), ((hs.arrange 3 4 [0, 1, 2] [4, 5, 6] (by decide)).gather 2), (ho98.mono mono_ref16_Body (Mem.le_gather (Mem.add (Mem.add F w33) p88) 2)), ho44⟩
                  · have ho82 : OwnL 1 (RInt .u8) F 5 (some ⟨b80, 0, none⟩) 0 ([] : List Int) [(b80, row [] 5)] := ⟨Nat.le_refl _, .inr ⟨_, [], [], rfl, rfl, Rs.nil, rfl⟩⟩
                    obtain ⟨x84, hx85, hr⟩ := bind_some' hr
                    refine WO.append 0 (OwnL.re (G := (Mem.add F χ)) (const_int _) ho82) rfl (SrcL.ofRd Try.underlying38 h79 (Mem.le_pick (Mem.add (Mem.add F χ) w33) 2 [1] (by decide))) hx85 rfl rfl rfl rfl rfl rfl Try.underlying38 el_5 (fun _ _ h => (h.arrange 2 4 [0, 1] [] (by decide))) (fun a86 c87 p88 ho89 => ?_)
                    refine WO.done ?_
                    refine WA.of ?_
                    refine WA.lin (fuel := 0) [(8, false), (15, true), (16, false), (17, false), (18, true), (19, true), (20, false)] (by kernel_rfl) (by kernel_rfl) ?_
                    refine WO.load 3 rfl rfl rfl rfl sc_3 rfl rfl ?_
                    refine WO.build (vs := [.tmp 54, .const (.int .i64 (-1)), .tmp 60]) [0, 1, 2] (.agg (List.toArray [.int .i64 (IntKind.wrap .i64 (v35.Next + 1)), .int .i64 (-1), .slice a86 x84.length c87])) rfl rfl rfl rfl rfl (fun _ => by kernel_rfl) ?_
                    refine WO.buildSl (e := 81) (vs := [.tmp 61]) [0] [.int .i64 (IntKind.wrap .i64 (v35.Next + 1)), .int .i64 (-1), .slice a86 x84.length c87] rfl rfl rfl rfl rfl (fun _ => by kernel_rfl) (fun _ _ h => (h.arrange 2 5 [0, 1] [] (by decide))) (fun b90 => ?_)
                    refine WO.freeze 1 rfl ?_
                    have hz92 := (OwnL.re (G := F) (const_int _) ho89).rd (mono_int _)
                    obtain ⟨x93, hx94, hr⟩ := bind_some' hr
                    refine WO.append 1 (ho39.mono mono_ref16_Body (Mem.le_pick (Mem.add (Mem.add F w33) p88) 2 [1] (by decide))) rfl (SrcL.ofRow 0 Try.underlying51 [[.int .i64 (IntKind.wrap .i64 (v35.Next + 1)), .int .i64 (-1), .slice a86 x84.length c87]] rfl rfl rfl (Rs.cons (x := (⟨(IntKind.wrap .i64 (v35.Next + 1)), (-1), x84⟩ : S_ref16_Body)) (cs := [.int .i64 (IntKind.wrap .i64 (v35.Next + 1)), .int .i64 (-1), .slice a86 x84.length c87]) rfl ⟨_, _, rfl, (hz92.mono (mono_int _) (Mem.le_pick (Mem.add (Mem.add F w33) p88) 2 [0] (by decide)))⟩ rfl Rs.nil)) hx94 rfl rfl rfl rfl rfl rfl Try.underlying51 el_81 (fun _ _ h => (h.arrange 3 4 [1, 2] [] (by decide))) (fun a95 c96 p97 ho98 => ?_)
                    refine WO.nilCheck rfl rfl rfl rfl ?_
                    refine WO.fieldAddr 8 rfl rfl rfl rfl fl_54_8 ?_
                    refine WO.store 3 rfl rfl rfl rfl sz_51 rfl rfl rfl (fun _ h => (h.arrange 3 4 [1, 2] [] (by decide))) ?_
                    refine WO.done ?_
                    refine WA.of ?_
                    refine WA.done (by kernel_rfl) ?_
                    refine At.block_normal ?_
                    refine At.seq_wc ?_
                    refine WC.region [(0, true), (1, true), (2, true)] rfl ?_
                    refine WO.move rfl rfl rfl rfl ?_
                    refine WO.bin rfl rfl rfl rfl rfl rfl ?_
                    refine WO.assign rfl rfl rfl rfl ?_
                    refine WO.done ?_
                    refine At.round_next hr ?_
                    exact fun a w hc hs => ⟨a95, c96, p97, a41, c42, p43, (List.flatten [p88, w33]), (hc.keep (hc.keep (hc.keep hc.nil (t := 6) rfl) (t := 1) rfl) (t := 0) rfl), ((hs.arrange 3 4 [0, 1, 2] [4, 5, 6] (by decide)).gather 2), (ho98.mono mono_ref16_Body (Mem.le_gather (Mem.add (Mem.add F w33) p88) 2)), ho44⟩
              · refine WO.load 2 rfl rfl rfl rfl sc_3 rfl rfl ?_
                refine WO.done ?_
                refine WA.of ?_
                refine WA.two (fuel := 8) 4 9 (by kernel_rfl) ?_ ?_
                · refine WO.load 2 rfl rfl rfl rfl sc_51 rfl rfl ?_
                  refine WO.done ?_
                  refine WA.of ?_
                  refine WA.lin (fuel := 0) [(9, false), (14, false), (15, true), (16, false), (17, false), (18, true), (19, true), (20, false)] (by kernel_rfl) (by kernel_rfl) ?_
                  refine WO.buildSl (e := 5) (vs := []) [] [] rfl rfl rfl rfl rfl (fun _ => by kernel_rfl) (fun _ _ h => (h.arrange 2 4 [0, 1] [] (by decide))) (fun b80 => ?_)
                  have ho82 : OwnL 1 (RInt .u8) F 5 (some ⟨b80, 0, none⟩) 0 ([] : List Int) [(b80, row [] 5)] := ⟨Nat.le_refl _, .inr ⟨_, [], [], rfl, rfl, Rs.nil, rfl⟩⟩
                  obtain ⟨x84, hx85, hr⟩ := bind_some' hr
                  refine WO.append 0 (OwnL.re (G := (Mem.add F χ)) (const_int _) ho82) rfl (SrcL.ofRd Try.underlying38 h79 (Mem.le_pick (Mem.add (Mem.add F χ) w33) 2 [1] (by decide))) hx85 rfl rfl rfl rfl rfl rfl Try.underlying38 el_5 (fun _ _ h => (h.arrange 2 4 [0, 1] [] (by decide))) (fun a86 c87 p88 ho89 => ?_)
                  refine WO.build (vs := [.tmp 54, .const (.int .i64 (-1)), .tmp 60]) [0, 1, 2] (.agg (List.toArray [.int .i64 (IntKind.wrap .i64 (v35.Next + 1)), .int .i64 (-1), .slice a86 x84.length c87])) rfl rfl rfl rfl rfl (fun _ => by kernel_rfl) ?_
                  refine WO.buildSl (e := 81) (vs := [.tmp 61]) [0] [.int .i64 (IntKind.wrap .i64 (v35.Next + 1)), .int .i64 (-1), .slice a86 x84.length c87] rfl rfl rfl rfl rfl (fun _ => by kernel_rfl) (fun _ _ h => (h.arrange 2 5 [0, 1] [] (by decide))) (fun b90 => ?_)
                  refine WO.freeze 1 rfl ?_
                  have hz92 := (OwnL.re (G := F) (const_int _) ho89).rd (mono_int _)
                  obtain ⟨x93, hx94, hr⟩ := bind_some' hr
                  refine WO.append 1 (ho39.mono mono_ref16_Body (Mem.le_pick (Mem.add (Mem.add F w33) p88) 2 [1] (by decide))) rfl (SrcL.ofRow 0 Try.underlying51 [[.int .i64 (IntKind.wrap .i64 (v35.Next + 1)), .int .i64 (-1), .slice a86 x84.length c87]] rfl rfl rfl (Rs.cons (x := (⟨(IntKind.wrap .i64 (v35.Next + 1)), (-1), x84⟩ : S_ref16_Body)) (cs := [.int .i64 (IntKind.wrap .i64 (v35.Next + 1)), .int .i64 (-1), .slice a86 x84.length c87]) rfl ⟨_, _, rfl, (hz92.mono (mono_int _) (Mem.le_pick (Mem.add (Mem.add F w33) p88) 2 [0] (by decide)))⟩ rfl Rs.nil)) hx94 rfl rfl rfl rfl rfl rfl Try.underlying51 el_81 (fun _ _ h => (h.arrange 3 4 [1, 2] [] (by decide))) (fun a95 c96 p97 ho98 => ?_)
                  refine WO.nilCheck rfl rfl rfl rfl ?_
                  refine WO.fieldAddr 8 rfl rfl rfl rfl fl_54_8 ?_
                  refine WO.store 3 rfl rfl rfl rfl sz_51 rfl rfl rfl (fun _ h => (h.arrange 3 4 [1, 2] [] (by decide))) ?_
                  refine WO.done ?_
                  refine WA.of ?_
                  refine WA.done (by kernel_rfl) ?_
                  refine At.block_normal ?_
                  refine At.seq_wc ?_
                  refine WC.region [(0, true), (1, true), (2, true)] rfl ?_
                  refine WO.move rfl rfl rfl rfl ?_
                  refine WO.bin rfl rfl rfl rfl rfl rfl ?_
                  refine WO.assign rfl rfl rfl rfl ?_
                  refine WO.done ?_
                  refine At.round_next hr ?_
                  exact fun a w hc hs => ⟨a95, c96, p97, a41, c42, p43, (List.flatten [p88, w33]), (hc.keep (hc.keep (hc.keep hc.nil (t := 6) rfl) (t := 1) rfl) (t := 0) rfl), ((hs.arrange 3 4 [0, 1, 2] [4, 5, 6] (by decide)).gather 2), (ho98.mono mono_ref16_Body (Mem.le_gather (Mem.add (Mem.add F w33) p88) 2)), ho44⟩
                · refine WO.buildSl (e := 5) (vs := []) [] [] rfl rfl rfl rfl rfl (fun _ => by kernel_rfl) (fun _ _ h => (h.arrange 2 4 [0, 1] [] (by decide))) (fun b80 => ?_)
                  refine WO.done ?_
                  refine WA.of ?_
                  refine WA.two (fuel := 7) 4 14 (by kernel_rfl) ?_ ?_
                  · refine WO.load 3 rfl rfl rfl rfl sc_51 rfl rfl ?_
                    refine WO.done ?_
                    refine WA.of ?_
                    refine WA.lin (fuel := 0) [(14, false), (15, true), (16, false), (17, false), (18, true), (19, true), (20, false)] (by kernel_rfl) (by kernel_rfl) ?_
                    have ho82 : OwnL 1 (RInt .u8) F 5 (some ⟨b80, 0, none⟩) 0 ([] : List Int) [(b80, row [] 5)] := ⟨Nat.le_refl _, .inr ⟨_, [], [], rfl, rfl, Rs.nil, rfl⟩⟩
                    obtain ⟨x84, hx85, hr⟩ := bind_some' hr
                    refine WO.append 0 (OwnL.re (G := (Mem.add F χ)) (const_int _) ho82) rfl (SrcL.ofRd Try.underlying38 h79 (Mem.le_pick (Mem.add (Mem.add F χ) w33) 2 [1] (by decide))) hx85 rfl rfl rfl rfl rfl rfl Try.underlying38 el_5 (fun _ _ h => (h.arrange 2 4 [0, 1] [] (by decide))) (fun a86 c87 p88 ho89 => ?_)
                    refine WO.build (vs := [.tmp 54, .const (.int .i64 (-1)), .tmp 60]) [0, 1, 2] (.agg (List.toArray [.int .i64 (IntKind.wrap .i64 (v35.Next + 1)), .int .i64 (-1), .slice a86 x84.length c87])) rfl rfl rfl rfl rfl (fun _ => by kernel_rfl) ?_
                    refine WO.buildSl (e := 81) (vs := [.tmp 61]) [0] [.int .i64 (IntKind.wrap .i64 (v35.Next + 1)), .int .i64 (-1), .slice a86 x84.length c87] rfl rfl rfl rfl rfl (fun _ => by kernel_rfl) (fun _ _ h => (h.arrange 2 5 [0, 1] [] (by decide))) (fun b90 => ?_)
                    refine WO.freeze 1 rfl ?_
                    have hz92 := (OwnL.re (G := F) (const_int _) ho89).rd (mono_int _)
                    obtain ⟨x93, hx94, hr⟩ := bind_some' hr
                    refine WO.append 1 (ho39.mono mono_ref16_Body (Mem.le_pick (Mem.add (Mem.add F w33) p88) 2 [1] (by decide))) rfl (SrcL.ofRow 0 Try.underlying51 [[.int .i64 (IntKind.wrap .i64 (v35.Next + 1)), .int .i64 (-1), .slice a86 x84.length c87]] rfl rfl rfl (Rs.cons (x := (⟨(IntKind.wrap .i64 (v35.Next + 1)), (-1), x84⟩ : S_ref16_Body)) (cs := [.int .i64 (IntKind.wrap .i64 (v35.Next + 1)), .int .i64 (-1), .slice a86 x84.length c87]) rfl ⟨_, _, rfl, (hz92.mono (mono_int _) (Mem.le_pick (Mem.add (Mem.add F w33) p88) 2 [0] (by decide)))⟩ rfl Rs.nil)) hx94 rfl rfl rfl rfl rfl rfl Try.underlying51 el_81 (fun _ _ h => (h.arrange 3 4 [1, 2] [] (by decide))) (fun a95 c96 p97 ho98 => ?_)
                    refine WO.nilCheck rfl rfl rfl rfl ?_
                    refine WO.fieldAddr 8 rfl rfl rfl rfl fl_54_8 ?_
                    refine WO.store 3 rfl rfl rfl rfl sz_51 rfl rfl rfl (fun _ h => (h.arrange 3 4 [1, 2] [] (by decide))) ?_
                    refine WO.done ?_
                    refine WA.of ?_
                    refine WA.done (by kernel_rfl) ?_
                    refine At.block_normal ?_
                    refine At.seq_wc ?_
                    refine WC.region [(0, true), (1, true), (2, true)] rfl ?_
                    refine WO.move rfl rfl rfl rfl ?_
                    refine WO.bin rfl rfl rfl rfl rfl rfl ?_
                    refine WO.assign rfl rfl rfl rfl ?_
                    refine WO.done ?_
                    refine At.round_next hr ?_
                    exact fun a w hc hs => ⟨a95, c96, p97, a41, c42, p43, (List.flatten [p88, w33]), (hc.keep (hc.keep (hc.keep hc.nil (t := 6) rfl) (t := 1) rfl) (t := 0) rfl), ((hs.arrange 3 4 [0, 1, 2] [4, 5, 6] (by decide)).gather 2), (ho98.mono mono_ref16_Body (Mem.le_gather (Mem.add (Mem.add F w33) p88) 2)), ho44⟩
                  · have ho82 : OwnL 1 (RInt .u8) F 5 (some ⟨b80, 0, none⟩) 0 ([] : List Int) [(b80, row [] 5)] := ⟨Nat.le_refl _, .inr ⟨_, [], [], rfl, rfl, Rs.nil, rfl⟩⟩
                    obtain ⟨x84, hx85, hr⟩ := bind_some' hr
                    refine WO.append 0 (OwnL.re (G := (Mem.add F χ)) (const_int _) ho82) rfl (SrcL.ofRd Try.underlying38 h79 (Mem.le_pick (Mem.add (Mem.add F χ) w33) 2 [1] (by decide))) hx85 rfl rfl rfl rfl rfl rfl Try.underlying38 el_5 (fun _ _ h => (h.arrange 2 4 [0, 1] [] (by decide))) (fun a86 c87 p88 ho89 => ?_)
                    refine WO.done ?_
                    refine WA.of ?_
                    refine WA.lin (fuel := 6) [(15, true)] (by kernel_rfl) (by kernel_rfl) ?_
                    refine WO.build (vs := [.tmp 54, .const (.int .i64 (-1)), .tmp 60]) [0, 1, 2] (.agg (List.toArray [.int .i64 (IntKind.wrap .i64 (v35.Next + 1)), .int .i64 (-1), .slice a86 x84.length c87])) rfl rfl rfl rfl rfl (fun _ => by kernel_rfl) ?_
                    refine WO.done ?_
                    refine WA.of ?_
                    refine WA.two (fuel := 5) 4 16 (by kernel_rfl) ?_ ?_
                    · refine WO.load 3 rfl rfl rfl rfl sc_51 rfl rfl ?_
                      refine WO.done ?_
                      refine WA.of ?_
                      refine WA.lin (fuel := 0) [(16, false), (17, false), (18, true), (19, true), (20, false)] (by kernel_rfl) (by kernel_rfl) ?_
                      refine WO.buildSl (e := 81) (vs := [.tmp 61]) [0] [.int .i64 (IntKind.wrap .i64 (v35.Next + 1)), .int .i64 (-1), .slice a86 x84.length c87] rfl rfl rfl rfl rfl (fun _ => by kernel_rfl) (fun _ _ h => (h.arrange 2 5 [0, 1] [] (by decide))) (fun b90 => ?_)
                      refine WO.freeze 1 rfl ?_
                      have hz92 := (OwnL.re (G := F) (const_int _) ho89).rd (mono_int _)
                      obtain ⟨x93, hx94, hr⟩ := bind_some' hr
                      refine WO.append 1 (ho39.mono mono_ref16_Body (Mem.le_pick (Mem.add (Mem.add F w33) p88) 2 [1] (by decide))) rfl (SrcL.ofRow 0 Try.underlying51 [[.int .i64 (IntKind.wrap .i64 (v35.Next + 1)), .int .i64 (-1), .slice a86 x84.length c87]] rfl rfl rfl (Rs.cons (x := (⟨(IntKind.wrap .i64 (v35.Next + 1)), (-1), x84⟩ : S_ref16_Body)) (cs := [.int .i64 (IntKind.wrap .i64 (v35.Next + 1)), .int .i64 (-1), .slice a86 x84.length c87]) rfl ⟨_, _, rfl, (hz92.mono (mono_int _) (Mem.le_pick (Mem.add (Mem.add F w33) p88) 2 [0] (by decide)))⟩ rfl Rs.nil)) hx94 rfl rfl rfl rfl rfl rfl Try.underlying51 el_81 (fun _ _ h => (h.arrange 3 4 [1, 2] [] (by decide))) (fun a95 c96 p97 ho98 => ?_)
                      refine WO.nilCheck rfl rfl rfl rfl ?_
                      refine WO.fieldAddr 8 rfl rfl rfl rfl fl_54_8 ?_
                      refine WO.store 3 rfl rfl rfl rfl sz_51 rfl rfl rfl (fun _ h => (h.arrange 3 4 [1, 2] [] (by decide))) ?_
                      refine WO.done ?_
                      refine WA.of ?_
                      refine WA.done (by kernel_rfl) ?_
                      refine At.block_normal ?_
                      refine At.seq_wc ?_
                      refine WC.region [(0, true), (1, true), (2, true)] rfl ?_
                      refine WO.move rfl rfl rfl rfl ?_
                      refine WO.bin rfl rfl rfl rfl rfl rfl ?_
                      refine WO.assign rfl rfl rfl rfl ?_
                      refine WO.done ?_
                      refine At.round_next hr ?_
                      exact fun a w hc hs => ⟨a95, c96, p97, a41, c42, p43, (List.flatten [p88, w33]), (hc.keep (hc.keep (hc.keep hc.nil (t := 6) rfl) (t := 1) rfl) (t := 0) rfl), ((hs.arrange 3 4 [0, 1, 2] [4, 5, 6] (by decide)).gather 2), (ho98.mono mono_ref16_Body (Mem.le_gather (Mem.add (Mem.add F w33) p88) 2)), ho44⟩
                    · refine WO.buildSl (e := 81) (vs := [.tmp 61]) [0] [.int .i64 (IntKind.wrap .i64 (v35.Next + 1)), .int .i64 (-1), .slice a86 x84.length c87] rfl rfl rfl rfl rfl (fun _ => by kernel_rfl) (fun _ _ h => (h.arrange 2 5 [0, 1] [] (by decide))) (fun b90 => ?_)
                      refine WO.done ?_
                      refine WA.of ?_
                      refine WA.lin (fuel := 0) [(4, false), (17, false), (18, true), (19, true), (20, false)] (by kernel_rfl) (by kernel_rfl) ?_
                      refine WO.load 4 rfl rfl rfl rfl sc_51 rfl rfl ?_
                      refine WO.freeze 1 rfl ?_
                      have hz92 := (OwnL.re (G := F) (const_int _) ho89).rd (mono_int _)
                      obtain ⟨x93, hx94, hr⟩ := bind_some' hr
                      refine WO.append 1 (ho39.mono mono_ref16_Body (Mem.le_pick (Mem.add (Mem.add F w33) p88) 2 [1] (by decide))) rfl (SrcL.ofRow 0 Try.underlying51 [[.int .i64 (IntKind.wrap .i64 (v35.Next + 1)), .int .i64 (-1), .slice a86 x84.length c87]] rfl rfl rfl (Rs.cons (x := (⟨(IntKind.wrap .i64 (v35.Next + 1)), (-1), x84⟩ : S_ref16_Body)) (cs := [.int .i64 (IntKind.wrap .i64 (v35.Next + 1)), .int .i64 (-1), .slice a86 x84.length c87]) rfl ⟨_, _, rfl, (hz92.mono (mono_int _) (Mem.le_pick (Mem.add (Mem.add F w33) p88) 2 [0] (by decide)))⟩ rfl Rs.nil)) hx94 rfl rfl rfl rfl rfl rfl Try.underlying51 el_81 (fun _ _ h => (h.arrange 3 4 [1, 2] [] (by decide))) (fun a95 c96 p97 ho98 => ?_)
                      refine WO.nilCheck rfl rfl rfl rfl ?_
                      refine WO.fieldAddr 8 rfl rfl rfl rfl fl_54_8 ?_
                      refine WO.store 3 rfl rfl rfl rfl sz_51 rfl rfl rfl (fun _ h => (h.arrange 3 4 [1, 2] [] (by decide))) ?_
                      refine WO.done ?_
                      refine WA.of ?_
                      refine WA.done (by kernel_rfl) ?_
                      refine At.block_normal ?_
                      refine At.seq_wc ?_
                      refine WC.region [(0, true), (1, true), (2, true)] rfl ?_
                      refine WO.move rfl rfl rfl rfl ?_
                      refine WO.bin rfl rfl rfl rfl rfl rfl ?_
                      refine WO.assign rfl rfl rfl rfl ?_
                      refine WO.done ?_
                      refine At.round_next hr ?_
                      exact fun a w hc hs => ⟨a95, c96, p97, a41, c42, p43, (List.flatten [p88, w33]), (hc.keep (hc.keep (hc.keep hc.nil (t := 6) rfl) (t := 1) rfl) (t := 0) rfl), ((hs.arrange 3 4 [0, 1, 2] [4, 5, 6] (by decide)).gather 2), (ho98.mono mono_ref16_Body (Mem.le_gather (Mem.add (Mem.add F w33) p88) 2)), ho44⟩
              · refine WO.buildSl (e := 5) (vs := []) [] [] rfl rfl rfl rfl rfl (fun _ => by kernel_rfl) (fun _ _ h => (h.arrange 2 4 [0, 1] [] (by decide))) (fun b80 => ?_)
                refine WO.done ?_
                refine WA.of ?_
                refine WA.three (fuel := 8) 4 8 14 (by kernel_rfl) ?_ ?_ ?_
                · refine WO.load 3 rfl rfl rfl rfl sc_51 rfl rfl ?_
                  refine WO.done ?_
                  refine WA.of ?_
                  refine WA.two (fuel := 7) 8 14 (by kernel_rfl) ?_ ?_
                  · refine WO.load 3 rfl rfl rfl rfl sc_3 rfl rfl ?_
                    refine WO.done ?_
                    refine WA.of ?_
                    refine WA.lin (fuel := 0) [(14, false), (15, true), (16, false), (17, false), (18, true), (19, true), (20, false)] (by kernel_rfl) (by kernel_rfl) ?_
                    have ho82 : OwnL 1 (RInt .u8) F 5 (some ⟨b80, 0, none⟩) 0 ([] : List Int) [(b80, row [] 5)] := ⟨Nat.le_refl _, .inr ⟨_, [], [], rfl, rfl, Rs.nil, rfl⟩⟩
                    obtain ⟨x84, hx85, hr⟩ := bind_some' hr
                    refine WO.append 0 (OwnL.re (G := (Mem.add F χ)) (const_int _) ho82) rfl (SrcL.ofRd Try.underlying38 h79 (Mem.le_pick (Mem.add (Mem.add F χ) w33) 2 [1] (by decide))) hx85 rfl rfl rfl rfl rfl rfl Try.underlying38 el_5 (fun _ _ h => (h.arrange 2 4 [0, 1] [] (by decide))) (fun a86 c87 p88 ho89 => ?_)
                    refine WO.build (vs := [.tmp 54, .const (.int .i64 (-1)), .tmp 60]) [0, 1, 2] (.agg (List.toArray [.int .i64 (IntKind.wrap .i64 (v35.Next + 1)), .int .i64 (-1), .slice a86 x84.length c87])) rfl rfl rfl rfl rfl (fun _ => by kernel_rfl) ?_
                    refine WO.buildSl (e := 81) (vs := [.tmp 61]) [0] [.int .i64 (IntKind.wrap .i64 (v35.Next + 1)), .int .i64 (-1), .slice a86 x84.length c87] rfl rfl rfl rfl rfl (fun _ => by kernel_rfl) (fun _ _ h => (h.arrange 2 5 [0, 1] [] (by decide))) (fun b90 => ?_)
                    refine WO.freeze 1 rfl ?_
                    have hz92 := (OwnL.re (G := F) (const_int _) ho89).rd (mono_int _)
                    obtain ⟨x93, hx94, hr⟩ := bind_some' hr
                    refine WO.append 1 (ho39.mono mono_ref16_Body (Mem.le_pick (Mem.add (Mem.add F w33) p88) 2 [1] (by decide))) rfl (SrcL.ofRow 0 Try.underlying51 [[.int .i64 (IntKind.wrap .i64 (v35.Next + 1)), .int .i64 (-1), .slice a86 x84.length c87]] rfl rfl rfl (Rs.cons (x := (⟨(IntKind.wrap .i64 (v35.Next + 1)), (-1), x84⟩ : S_ref16_Body)) (cs := [.int .i64 (IntKind.wrap .i64 (v35.Next + 1)), .int .i64 (-1), .slice a86 x84.length c87]) rfl ⟨_, _, rfl, (hz92.mono (mono_int _) (Mem.le_pick (Mem.add (Mem.add F w33) p88) 2 [0] (by decide)))⟩ rfl Rs.nil)) hx94 rfl rfl rfl rfl rfl rfl Try.underlying51 el_81 (fun _ _ h => (h.arrange 3 4 [1, 2] [] (by decide))) (fun a95 c96 p97 ho98 => ?_)
                    refine WO.nilCheck rfl rfl rfl rfl ?_
                    refine WO.fieldAddr 8 rfl rfl rfl rfl fl_54_8 ?_
                    refine WO.store 3 rfl rfl rfl rfl sz_51 rfl rfl rfl (fun _ h => (h.arrange 3 4 [1, 2] [] (by decide))) ?_
                    refine WO.done ?_
                    refine WA.of ?_
                    refine WA.done (by kernel_rfl) ?_
                    refine At.block_normal ?_
                    refine At.seq_wc ?_
                    refine WC.region [(0, true), (1, true), (2, true)] rfl ?_
                    refine WO.move rfl rfl rfl rfl ?_
                    refine WO.bin rfl rfl rfl rfl rfl rfl ?_
                    refine WO.assign rfl rfl rfl rfl ?_
                    refine WO.done ?_
                    refine At.round_next hr ?_
                    exact fun a w hc hs => ⟨a95, c96, p97, a41, c42, p43, (List.flatten [p88, w33]), (hc.keep (hc.keep (hc.keep hc.nil (t := 6) rfl) (t := 1) rfl) (t := 0) rfl), ((hs.arrange 3 4 [0, 1, 2] [4, 5, 6] (by decide)).gather 2), (ho98.mono mono_ref16_Body (Mem.le_gather (Mem.add (Mem.add F w33) p88) 2)), ho44⟩
                  · have ho82 : OwnL 1 (RInt .u8) F 5 (some ⟨b80, 0, none⟩) 0 ([] : List Int) [(b80, row [] 5)] := ⟨Nat.le_refl _, .inr ⟨_, [], [], rfl, rfl, Rs.nil, rfl⟩⟩
                    obtain ⟨x84, hx85, hr⟩ := bind_some' hr
                    refine WO.append 0 (OwnL.re (G := (Mem.add F χ)) (const_int _) ho82) rfl (SrcL.ofRd Try.underlying38 h79 (Mem.le_pick (Mem.add (Mem.add F χ) w33) 2 [1] (by decide))) hx85 rfl rfl rfl rfl rfl rfl Try.underlying38 el_5 (fun _ _ h => (h.arrange 2 4 [0, 1] [] (by decide))) (fun a86 c87 p88 ho89 => ?_)
                    refine WO.done ?_
                    refine WA.of ?_
                    refine WA.lin (fuel := 0) [(8, false), (15, true), (16, false), (17, false), (18, true), (19, true), (20, false)] (by kernel_rfl) (by kernel_rfl) ?_
                    refine WO.load 3 rfl rfl rfl rfl sc_3 rfl rfl ?_
                    refine WO.build (vs := [.tmp 54, .const (.int .i64 (-1)), .tmp 60]) [0, 1, 2] (.agg (List.toArray [.int .i64 (IntKind.wrap .i64 (v35.Next + 1)), .int .i64 (-1), .slice a86 x84.length c87])) rfl rfl rfl rfl rfl (fun _ => by kernel_rfl) ?_
                    refine WO.buildSl (e := 81) (vs := [.tmp 61]) [0] [.int .i64 (IntKind.wrap .i64 (v35.Next + 1)), .int .i64 (-1), .slice a86 x84.length c87] rfl rfl rfl rfl rfl (fun _ => by kernel_rfl) (fun _ _ h => (h.arrange 2 5 [0, 1] [] (by decide))) (fun b90 => ?_)
                    refine WO.freeze 1 rfl ?_
                    have hz92 := (OwnL.re (G := F) (const_int _) ho89).rd (mono_int _)
                    obtain ⟨x93, hx94, hr⟩ := bind_some' hr
                    refine WO.append 1 (ho39.mono mono_ref16_Body (Mem.le_pick (Mem.add (Mem.add F w33) p88) 2 [1] (by decide))) rfl (SrcL.ofRow 0 Try.underlying51 [[.int .i64 (IntKind.wrap .i64 (v35.Next + 1)), .int .i64 (-1), .slice a86 x84.length c87]] rfl rfl rfl (Rs.cons (x := (⟨(IntKind.wrap .i64 (v35.Next + 1)), (-1), x84⟩ : S_ref16_Body)) (cs := [.int .i64 (IntKind.wrap .i64 (v35.Next + 1)), .int .i64 (-1), .slice a86 x84.length c87]) rfl ⟨_, _, rfl, (hz92.mono (mono_int _) (Mem.le_pick (Mem.add (Mem.add F w33) p88) 2 [0] (by decide)))⟩ rfl Rs.nil)) hx94 rfl rfl rfl rfl rfl rfl Try.underlying51 el_81 (fun _ _ h => (h.arrange 3 4 [1, 2] [] (by decide))) (fun a95 c96 p97 ho98 => ?_)
                    refine WO.nilCheck rfl rfl rfl rfl ?_
                    refine WO.fieldAddr 8 rfl rfl rfl rfl fl_54_8 ?_
                    refine WO.store 3 rfl rfl rfl rfl sz_51 rfl rfl rfl (fun _ h => (h.arrange 3 4 [1, 2] [] (by decide))) ?_
                    refine WO.done ?_
                    refine WA.of ?_
                    refine WA.done (by kernel_rfl) ?_
                    refine At.block_normal ?_
                    refine At.seq_wc ?_
                    refine WC.region [(0, true), (1, true), (2, true)] rfl ?_
                    refine WO.move rfl rfl rfl rfl ?_
                    refine WO.bin rfl rfl rfl rfl rfl rfl ?_
                    refine WO.assign rfl rfl rfl rfl ?_
                    refine WO.done ?_
                    refine At.round_next hr ?_
                    exact fun a w hc hs => ⟨a95, c96, p97, a41, c42, p43, (List.flatten [p88, w33]), (hc.keep (hc.keep (hc.keep hc.nil (t := 6) rfl) (t := 1) rfl) (t := 0) rfl), ((hs.arrange 3 4 [0, 1, 2] [4, 5, 6] (by decide)).gather 2), (ho98.mono mono_ref16_Body (Mem.le_gather (Mem.add (Mem.add F w33) p88) 2)), ho44⟩
                · refine WO.load 3 rfl rfl rfl rfl sc_3 rfl rfl ?_
                  refine WO.done ?_
                  refine WA.of ?_
                  refine WA.two (fuel := 7) 4 14 (by kernel_rfl) ?_ ?_
                  · refine WO.load 3 rfl rfl rfl rfl sc_51 rfl rfl ?_
                    refine WO.done ?_
                    refine WA.of ?_
                    refine WA.lin (fuel := 0) [(14, false), (15, true), (16, false), (17, false), (18, true), (19, true), (20, false)] (by kernel_rfl) (by kernel_rfl) ?_
                    have ho82 : OwnL 1 (RInt .u8) F 5 (some ⟨b80, 0, none⟩) 0 ([] : List Int) [(b80, row [] 5)] := ⟨Nat.le_refl _, .inr ⟨_, [], [], rfl, rfl, Rs.nil, rfl⟩⟩
                    obtain ⟨x84, hx85, hr⟩ := bind_some' hr
                    refine WO.append 0 (OwnL.re (G := (Mem.add F χ)) (const_int _) ho82) rfl (SrcL.ofRd Try.underlying38 h79 (Mem.le_pick (Mem.add (Mem.add F χ) w33) 2 [1] (by decide))) hx85 rfl rfl rfl rfl rfl rfl Try.underlying38 el_5 (fun _ _ h => (h.arrange 2 4 [0, 1] [] (by decide))) (fun a86 c87 p88 ho89 => ?_)
                    refine WO.build (vs := [.tmp 54, .const (.int .i64 (-1)), .tmp 60]) [0, 1, 2] (.agg (List.toArray [.int .i64 (IntKind.wrap .i64 (v35.Next + 1)), .int .i64 (-1), .slice a86 x84.length c87])) rfl rfl rfl rfl rfl (fun _ => by kernel_rfl) ?_
                    refine WO.buildSl (e := 81) (vs := [.tmp 61]) [0] [.int .i64 (IntKind.wrap .i64 (v35.Next + 1)), .int .i64 (-1), .slice a86 x84.length c87] rfl rfl rfl rfl rfl (fun _ => by kernel_rfl) (fun _ _ h => (h.arrange 2 5 [0, 1] [] (by decide))) (fun b90 => ?_)
                    refine WO.freeze 1 rfl ?_
                    have hz92 := (OwnL.re (G := F) (const_int _) ho89).rd (mono_int _)
                    obtain ⟨x93, hx94, hr⟩ := bind_some' hr
                    refine WO.append 1 (ho39.mono mono_ref16_Body (Mem.le_pick (Mem.add (Mem.add F w33) p88) 2 [1] (by decide))) rfl (SrcL.ofRow 0 Try.underlying51 [[.int .i64 (IntKind.wrap .i64 (v35.Next + 1)), .int .i64 (-1), .slice a86 x84.length c87]] rfl rfl rfl (Rs.cons (x := (⟨(IntKind.wrap .i64 (v35.Next + 1)), (-1), x84⟩ : S_ref16_Body)) (cs := [.int .i64 (IntKind.wrap .i64 (v35.Next + 1)), .int .i64 (-1), .slice a86 x84.length c87]) rfl ⟨_, _, rfl, (hz92.mono (mono_int _) (Mem.le_pick (Mem.add (Mem.add F w33) p88) 2 [0] (by decide)))⟩ rfl Rs.nil)) hx94 rfl rfl rfl rfl rfl rfl Try.underlying51 el_81 (fun _ _ h => (h.arrange 3 4 [1, 2] [] (by decide))) (fun a95 c96 p97 ho98 => ?_)
                    refine WO.nilCheck rfl rfl rfl rfl ?_
                    refine WO.fieldAddr 8 rfl rfl rfl rfl fl_54_8 ?_
                    refine WO.store 3 rfl rfl rfl rfl sz_51 rfl rfl rfl (fun _ h => (h.arrange 3 4 [1, 2] [] (by decide))) ?_
                    refine WO.done ?_
                    refine WA.of ?_
                    refine WA.done (by kernel_rfl) ?_
                    refine At.block_normal ?_
                    refine At.seq_wc ?_
                    refine WC.region [(0, true), (1, true), (2, true)] rfl ?_
                    refine WO.move rfl rfl rfl rfl ?_
                    refine WO.bin rfl rfl rfl rfl rfl rfl ?_
                    refine WO.assign rfl rfl rfl rfl ?_
                    refine WO.done ?_
                    refine At.round_next hr ?_
                    exact fun a w hc hs => ⟨a95, c96, p97, a41, c42, p43, (List.flatten [p88, w33]), (hc.keep (hc.keep (hc.keep hc.nil (t := 6) rfl) (t := 1) rfl) (t := 0) rfl), ((hs.arrange 3 4 [0, 1, 2] [4, 5, 6] (by decide)).gather 2), (ho98.mono mono_ref16_Body (Mem.le_gather (Mem.add (Mem.add F w33) p88) 2)), ho44⟩
                  · have ho82 : OwnL 1 (RInt .u8) F 5 (some ⟨b80, 0, none⟩) 0 ([] : List Int) [(b80, row [] 5)] := ⟨Nat.le_refl _, .inr ⟨_, [], [], rfl, rfl, Rs.nil, rfl⟩⟩
                    obtain ⟨x84, hx85, hr⟩ := bind_some' hr
                    refine WO.append 0 (OwnL.re (G := (Mem.add F χ)) (const_int _) ho82) rfl (SrcL.ofRd Try.underlying38 h79 (Mem.le_pick (Mem.add (Mem.add F χ) w33) 2 [1] (by decide))) hx85 rfl rfl rfl rfl rfl rfl Try.underlying38 el_5 (fun _ _ h => (h.arrange 2 4 [0, 1] [] (by decide))) (fun a86 c87 p88 ho89 => ?_)
                    refine WO.done ?_
                    refine WA.of ?_
                    refine WA.lin (fuel := 6) [(15, true)] (by kernel_rfl) (by kernel_rfl) ?_
                    refine WO.build (vs := [.tmp 54, .const (.int .i64 (-1)), .tmp 60]) [0, 1, 2] (.agg (List.toArray [.int .i64 (IntKind.wrap .i64 (v35.Next + 1)), .int .i64 (-1), .slice a86 x84.length c87])) rfl rfl rfl rfl rfl (fun _ => by kernel_rfl) ?_
                    refine WO.done ?_
                    refine WA.of ?_
                    refine WA.two (fuel := 5) 4 16 (by kernel_rfl) ?_ ?_
                    · refine WO.load 3 rfl rfl rfl rfl sc_51 rfl rfl ?_
                      refine WO.done ?_
                      refine WA.of ?_
                      refine WA.lin (fuel := 0) [(16, false), (17, false), (18, true), (19, true), (20, false)] (by kernel_rfl) (by kernel_rfl) ?_
                      refine WO.buildSl (e := 81) (vs := [.tmp 61]) [0] [.int .i64 (IntKind.wrap .i64 (v35.Next + 1)), .int .i64 (-1), .slice a86 x84.length c87] rfl rfl rfl rfl rfl (fun _ => by kernel_rfl) (fun _ _ h => (h.arrange 2 5 [0, 1] [] (by decide))) (fun b90 => ?_)
                      refine WO.freeze 1 rfl ?_
                      have hz92 := (OwnL.re (G := F) (const_int _) ho89).rd (mono_int _)
                      obtain ⟨x93, hx94, hr⟩ := bind_some' hr
                      refine WO.append 1 (ho39.mono mono_ref16_Body (Mem.le_pick (Mem.add (Mem.add F w33) p88) 2 [1] (by decide))) rfl (SrcL.ofRow 0 Try.underlying51 [[.int .i64 (IntKind.wrap .i64 (v35.Next + 1)), .int .i64 (-1), .slice a86 x84.length c87]] rfl rfl rfl (Rs.cons (x := (⟨(IntKind.wrap .i64 (v35.Next + 1)), (-1), x84⟩ : S_ref16_Body)) (cs := [.int .i64 (IntKind.wrap .i64 (v35.Next + 1)), .int .i64 (-1), .slice a86 x84.length c87]) rfl ⟨_, _, rfl, (hz92.mono (mono_int _) (Mem.le_pick (Mem.add (Mem.add F w33) p88) 2 [0] (by decide)))⟩ rfl Rs.nil)) hx94 rfl rfl rfl rfl rfl rfl Try.underlying51 el_81 (fun _ _ h => (h.arrange 3 4 [1, 2] [] (by decide))) (fun a95 c96 p97 ho98 => ?_)
                      refine WO.nilCheck rfl rfl rfl rfl ?_
                      refine WO.fieldAddr 8 rfl rfl rfl rfl fl_54_8 ?_
                      refine WO.store 3 rfl rfl rfl rfl sz_51 rfl rfl rfl (fun _ h => (h.arrange 3 4 [1, 2] [] (by decide))) ?_
                      refine WO.done ?_
                      refine WA.of ?_
                      refine WA.done (by kernel_rfl) ?_
                      refine At.block_normal ?_
                      refine At.seq_wc ?_
                      refine WC.region [(0, true), (1, true), (2, true)] rfl ?_
                      refine WO.move rfl rfl rfl rfl ?_
                      refine WO.bin rfl rfl rfl rfl rfl rfl ?_
                      refine WO.assign rfl rfl rfl rfl ?_
                      refine WO.done ?_
                      refine At.round_next hr ?_
                      exact fun a w hc hs => ⟨a95, c96, p97, a41, c42, p43, (List.flatten [p88, w33]), (hc.keep (hc.keep (hc.keep hc.nil (t := 6) rfl) (t := 1) rfl) (t := 0) rfl), ((hs.arrange 3 4 [0, 1, 2] [4, 5, 6] (by decide)).gather 2), (ho98.mono mono_ref16_Body (Mem.le_gather (Mem.add (Mem.add F w33) p88) 2)), ho44⟩
                    · refine WO.buildSl (e := 81) (vs := [.tmp 61]) [0] [.int .i64 (IntKind.wrap .i64 (v35.Next + 1)), .int .i64 (-1), .slice a86 x84.length c87] rfl rfl rfl rfl rfl (fun _ => by kernel_rfl) (fun _ _ h => (h.arrange 2 5 [0, 1] [] (by decide))) (fun b90 => ?_)
                      refine WO.done ?_
                      refine WA.of ?_
                      refine WA.lin (fuel := 0) [(4, false), (17, false), (18, true), (19, true), (20, false)] (by kernel_rfl) (by kernel_rfl) ?_
                      refine WO.load 4 rfl rfl rfl rfl sc_51 rfl rfl ?_
                      refine WO.freeze 1 rfl ?_
                      have hz92 := (OwnL.re (G := F) (const_int _) ho89).rd (mono_int _)
                      obtain ⟨x93, hx94, hr⟩ := bind_some' hr
                      refine WO.append 1 (ho39.mono mono_ref16_Body (Mem.le_pick (Mem.add (Mem.add F w33) p88) 2 [1] (by decide))) rfl (SrcL.ofRow 0 Try.underlying51 [[.int .i64 (IntKind.wrap .i64 (v35.Next + 1)), .int .i64 (-1), .slice a86 x84.length c87]] rfl rfl rfl (Rs.cons (x := (⟨(IntKind.wrap .i64 (v35.Next + 1)), (-1), x84⟩ : S_ref16_Body)) (cs := [.int .i64 (IntKind.wrap .i64 (v35.Next + 1)), .int .i64 (-1), .slice a86 x84.length c87]) rfl ⟨_, _, rfl, (hz92.mono (mono_int _) (Mem.le_pick (Mem.add (Mem.add F w33) p88) 2 [0] (by decide)))⟩ rfl Rs.nil)) hx94 rfl rfl rfl rfl rfl rfl Try.underlying51 el_81 (fun _ _ h => (h.arrange 3 4 [1, 2] [] (by decide))) (fun a95 c96 p97 ho98 => ?_)
                      refine WO.nilCheck rfl rfl rfl rfl ?_
                      refine WO.fieldAddr 8 rfl rfl rfl rfl fl_54_8 ?_
                      refine WO.store 3 rfl rfl rfl rfl sz_51 rfl rfl rfl (fun _ h => (h.arrange 3 4 [1, 2] [] (by decide))) ?_
                      refine WO.done ?_
                      refine WA.of ?_
                      refine WA.done (by kernel_rfl) ?_
                      refine At.block_normal ?_
                      refine At.seq_wc ?_
                      refine WC.region [(0, true), (1, true), (2, true)] rfl ?_
                      refine WO.move rfl rfl rfl rfl ?_
                      refine WO.bin rfl rfl rfl rfl rfl rfl ?_
                      refine WO.assign rfl rfl rfl rfl ?_
                      refine WO.done ?_
                      refine At.round_next hr ?_
                      exact fun a w hc hs => ⟨a95, c96, p97, a41, c42, p43, (List.flatten [p88, w33]), (hc.keep (hc.keep (hc.keep hc.nil (t := 6) rfl) (t := 1) rfl) (t := 0) rfl), ((hs.arrange 3 4 [0, 1, 2] [4, 5, 6] (by decide)).gather 2), (ho98.mono mono_ref16_Body (Mem.le_gather (Mem.add (Mem.add F w33) p88) 2)), ho44⟩
                · have ho82 : OwnL 1 (RInt .u8) F 5 (some ⟨b80, 0, none⟩) 0 ([] : List Int) [(b80, row [] 5)] := ⟨Nat.le_refl _, .inr ⟨_, [], [], rfl, rfl, Rs.nil, rfl⟩⟩
                  obtain ⟨x84, hx85, hr⟩ := bind_some' hr
                  refine WO.append 0 (OwnL.re (G := (Mem.add F χ)) (const_int _) ho82) rfl (SrcL.ofRd Try.underlying38 h79 (Mem.le_pick (Mem.add (Mem.add F χ) w33) 2 [1] (by decide))) hx85 rfl rfl rfl rfl rfl rfl Try.underlying38 el_5 (fun _ _ h => (h.arrange 2 4 [0, 1] [] (by decide))) (fun a86 c87 p88 ho89 => ?_)
                  refine WO.done ?_
                  refine WA.of ?_
                  refine WA.two (fuel := 7) 4 8 (by kernel_rfl) ?_ ?_
                  · refine WO.load 3 rfl rfl rfl rfl sc_51 rfl rfl ?_
                    refine WO.done ?_
                    refine WA.of ?_
                    refine WA.lin (fuel := 0) [(8, false), (15, true), (16, false), (17, false), (18, true), (19, true), (20, false)] (by kernel_rfl) (by kernel_rfl) ?_
                    refine WO.load 3 rfl rfl rfl rfl sc_3 rfl rfl ?_
                    refine WO.build (vs := [.tmp 54, .const (.int .i64 (-1)), .tmp 60]) [0, 1, 2] (.agg (List.toArray [.int .i64 (IntKind.wrap .i64 (v35.Next + 1)), .int .i64 (-1), .slice a86 x84.length c87])) rfl rfl rfl rfl rfl (fun _ => by kernel_rfl) ?_
                    refine WO.buildSl (e := 81) (vs := [.tmp 61]) [0] [.int .i64 (IntKind.wrap .i64 (v35.Next + 1)), .int .i64 (-1), .slice a86 x84.length c87] rfl rfl rfl rfl rfl (fun _ => by kernel_rfl) (fun _ _ h => (h.arrange 2 5 [0, 1] [] (by decide))) (fun b90 => ?_)
                    refine WO.freeze 1 rfl ?_
                    have hz92 := (OwnL.re (G := F) (const_int _) ho89).rd (mono_int _)
                    obtain ⟨x93, hx94, hr⟩ := bind_some' hr
                    refine WO.append 1 (ho39.mono mono_ref16_Body (Mem.le_pick (Mem.add (Mem.add F w33) p88) 2 [1] (by decide))) rfl (SrcL.ofRow 0 Try.underlying51 [[.int .i64 (IntKind.wrap .i64 (v35.Next + 1)), .int .i64 (-1), .slice a86 x84.length c87]] rfl rfl rfl (Rs.cons (x := (⟨(IntKind.wrap .i64 (v35.Next + 1)), (-1), x84⟩ : S_ref16_Body)) (cs := [.int .i64 (IntKind.wrap .i64 (v35.Next + 1)), .int .i64 (-1), .slice a86 x84.length c87]) rfl ⟨_, _, rfl, (hz92.mono (mono_int _) (Mem.le_pick (Mem.add (Mem.add F w33) p88) 2 [0] (by decide)))⟩ rfl Rs.nil)) hx94 rfl rfl rfl rfl rfl rfl Try.underlying51 el_81 (fun _ _ h => (h.arrange 3 4 [1, 2] [] (by decide))) (fun a95 c96 p97 ho98 => ?_)
                    refine WO.nilCheck rfl rfl rfl rfl ?_
                    refine WO.fieldAddr 8 rfl rfl rfl rfl fl_54_8 ?_
                    refine WO.store 3 rfl rfl rfl rfl sz_51 rfl rfl rfl (fun _ h => (h.arrange 3 4 [1, 2] [] (by decide))) ?_
                    refine WO.done ?_
                    refine WA.of ?_
                    refine WA.done (by kernel_rfl) ?_
                    refine At.block_normal ?_
                    refine At.seq_wc ?_
                    refine WC.region [(0, true), (1, true), (2, true)] rfl ?_
                    refine WO.move rfl rfl rfl rfl ?_
                    refine WO.bin rfl rfl rfl rfl rfl rfl ?_
                    refine WO.assign rfl rfl rfl rfl ?_
                    refine WO.done ?_
                    refine At.round_next hr ?_
                    exact fun a w hc hs => ⟨a95, c96, p97, a41, c42, p43, (List.flatten [p88, w33]), (hc.keep (hc.keep (hc.keep hc.nil (t := 6) rfl) (t := 1) rfl) (t := 0) rfl), ((hs.arrange 3 4 [0, 1, 2] [4, 5, 6] (by decide)).gather 2), (ho98.mono mono_ref16_Body (Mem.le_gather (Mem.add (Mem.add F w33) p88) 2)), ho44⟩
                  · refine WO.load 3 rfl rfl rfl rfl sc_3 rfl rfl ?_
                    refine WO.done ?_
                    refine WA.of ?_
                    refine WA.lin (fuel := 6) [(15, true)] (by kernel_rfl) (by kernel_rfl) ?_
                    refine WO.build (vs := [.tmp 54, .const (.int .i64 (-1)), .tmp 60]) [0, 1, 2] (.agg (List.toArray [.int .i64 (IntKind.wrap .i64 (v35.Next + 1)), .int .i64 (-1), .slice a86 x84.length c87])) rfl rfl rfl rfl rfl (fun _ => by kernel_rfl) ?_
                    refine WO.done ?_
                    refine WA.of ?_
                    refine WA.two (fuel := 5) 4 16 (by kernel_rfl) ?_ ?_
                    · refine WO.load 3 rfl rfl rfl rfl sc_51 rfl rfl ?_
                      refine WO.done ?_
                      refine WA.of ?_
                      refine WA.lin (fuel := 0) [(16, false), (17, false), (18, true), (19, true), (20, false)] (by kernel_rfl) (by kernel_rfl) ?_
                      refine WO.buildSl (e := 81) (vs := [.tmp 61]) [0] [.int .i64 (IntKind.wrap .i64 (v35.Next + 1)), .int .i64 (-1), .slice a86 x84.length c87] rfl rfl rfl rfl rfl (fun _ => by kernel_rfl) (fun _ _ h => (h.arrange 2 5 [0, 1] [] (by decide))) (fun b90 => ?_)
                      refine WO.freeze 1 rfl ?_
                      have hz92 := (OwnL.re (G := F) (const_int _) ho89).rd (mono_int _)
                      obtain ⟨x93, hx94, hr⟩ := bind_some' hr
                      refine WO.append 1 (ho39.mono mono_ref16_Body (Mem.le_pick (Mem.add (Mem.add F w33) p88) 2 [1] (by decide))) rfl (SrcL.ofRow 0 Try.underlying51 [[.int .i64 (IntKind.wrap .i64 (v35.Next + 1)), .int .i64 (-1), .slice a86 x84.length c87]] rfl rfl rfl (Rs.cons (x := (⟨(IntKind.wrap .i64 (v35.Next + 1)), (-1), x84⟩ : S_ref16_Body)) (cs := [.int .i64 (IntKind.wrap .i64 (v35.Next + 1)), .int .i64 (-1), .slice a86 x84.length c87]) rfl ⟨_, _, rfl, (hz92.mono (mono_int _) (Mem.le_pick (Mem.add (Mem.add F w33) p88) 2 [0] (by decide)))⟩ rfl Rs.nil)) hx94 rfl rfl rfl rfl rfl rfl Try.underlying51 el_81 (fun _ _ h => (h.arrange 3 4 [1, 2] [] (by decide))) (fun a95 c96 p97 ho98 => ?_)
                      refine WO.nilCheck rfl rfl rfl rfl ?_
                      refine WO.fieldAddr 8 rfl rfl rfl rfl fl_54_8 ?_
                      refine WO.store 3 rfl rfl rfl rfl sz_51 rfl rfl rfl (fun _ h => (h.arrange 3 4 [1, 2] [] (by decide))) ?_
                      refine WO.done ?_
                      refine WA.of ?_
                      refine WA.done (by kernel_rfl) ?_
                      refine At.block_normal ?_
                      refine At.seq_wc ?_
                      refine WC.region [(0, true), (1, true), (2, true)] rfl ?_
                      refine WO.move rfl rfl rfl rfl ?_
                      refine WO.bin rfl rfl rfl rfl rfl rfl ?_
                      refine WO.assign rfl rfl rfl rfl ?_
                      refine WO.done ?_
                      refine At.round_next hr ?_
                      exact fun a w hc hs => ⟨a95, c96, p97, a41, c42, p43, (List.flatten [p88, w33]), (hc.keep (hc.keep (hc.keep hc.nil (t := 6) rfl) (t := 1) rfl) (t := 0) rfl), ((hs.arrange 3 4 [0, 1, 2] [4, 5, 6] (by decide)).gather 2), (ho98.mono mono_ref16_Body (Mem.le_gather (Mem.add (Mem.add F w33) p88) 2)), ho44⟩
                    · refine WO.buildSl (e := 81) (vs := [.tmp 61]) [0] [.int .i64 (IntKind.wrap .i64 (v35.Next + 1)), .int .i64 (-1), .slice a86 x84.length c87] rfl rfl rfl rfl rfl (fun _ => by kernel_rfl) (fun _ _ h => (h.arrange 2 5 [0, 1] [] (by decide))) (fun b90 => ?_)
                      refine WO.done ?_
                      refine WA.of ?_
                      refine WA.lin (fuel := 0) [(4, false), (17, false), (18, true), (19, true), (20, false)] (by kernel_rfl) (by kernel_rfl) ?_
                      refine WO.load 4 rfl rfl rfl rfl sc_51 rfl rfl ?_
                      refine WO.freeze 1 rfl ?_
                      have hz92 := (OwnL.re (G := F) (const_int _) ho89).rd (mono_int _)
                      obtain ⟨x93, hx94, hr⟩ := bind_some' hr
                      refine WO.append 1 (ho39.mono mono_ref16_Body (Mem.le_pick (Mem.add (Mem.add F w33) p88) 2 [1] (by decide))) rfl (SrcL.ofRow 0 Try.underlying51 [[.int .i64 (IntKind.wrap .i64 (v35.Next + 1)), .int .i64 (-1), .slice a86 x84.length c87]] rfl rfl rfl (Rs.cons (x := (⟨(IntKind.wrap .i64 (v35.Next + 1)), (-1), x84⟩ : S_ref16_Body)) (cs := [.int .i64 (IntKind.wrap .i64 (v35.Next + 1)), .int .i64 (-1), .slice a86 x84.length c87]) rfl ⟨_, _, rfl, (hz92.mono (mono_int _) (Mem.le_pick (Mem.add (Mem.add F w33) p88) 2 [0] (by decide)))⟩ rfl Rs.nil)) hx94 rfl rfl rfl rfl rfl rfl Try.underlying51 el_81 (fun _ _ h => (h.arrange 3 4 [1, 2] [] (by decide))) (fun a95 c96 p97 ho98 => ?_)
                      refine WO.nilCheck rfl rfl rfl rfl ?_
                      refine WO.fieldAddr 8 rfl rfl rfl rfl fl_54_8 ?_
                      refine WO.store 3 rfl rfl rfl rfl sz_51 rfl rfl rfl (fun _ h => (h.arrange 3 4 [1, 2] [] (by decide))) ?_
                      refine WO.done ?_
                      refine WA.of ?_
                      refine WA.done (by kernel_rfl) ?_
                      refine At.block_normal ?_
                      refine At.seq_wc ?_
                      refine WC.region [(0, true), (1, true), (2, true)] rfl ?_
                      refine WO.move rfl rfl rfl rfl ?_
                      refine WO.bin rfl rfl rfl rfl rfl rfl ?_
                      refine WO.assign rfl rfl rfl rfl ?_
                      refine WO.done ?_
                      refine At.round_next hr ?_
                      exact fun a w hc hs => ⟨a95, c96, p97, a41, c42, p43, (List.flatten [p88, w33]), (hc.keep (hc.keep (hc.keep hc.nil (t := 6) rfl) (t := 1) rfl) (t := 0) rfl), ((hs.arrange 3 4 [0, 1, 2] [4, 5, 6] (by decide)).gather 2), (ho98.mono mono_ref16_Body (Mem.le_gather (Mem.add (Mem.add F w33) p88) 2)), ho44⟩
            · have hr := cond_f hb71 hr
              refine WC.exit ?_
              refine At.seq_exit ?_
              refine At.round_exit hr (fun hy => ?_)
              refine At.exit_block ?_
              refine At.seq_at ?_
              exact fun a w hc hs => ⟨v35, a36, c37, p38, a41, c42, p43, (List.flatten [w33]), hy, hc.nil, (hs.gather 1), (ho39.mono mono_ref16_Body (Mem.le_gather (Mem.add F w33) 1)), ho44⟩
        · rintro a w ⟨v60, a61, c62, p63, a66, c67, p68, w59, rfl, hc, hs, ho64, ho69⟩
          refine At.use hc hs ?_
          clear hc hs
          (try dsimp only at hk4)
          have hr := hk4
          refine At.seq_at ?_
          exact fun a w hc hs => ⟨v60, a61, c62, p63, a66, c67, p68, (List.flatten [w59]), hr, hc.nil, (hs.gather 1), (ho64.mono mono_ref16_Body (Mem.le_gather (Mem.add F w59) 1)), ho69⟩
      · rintro a w ⟨v8, a9, c10, p11, a14, c15, p16, w7, hr, hc, hs, ho12, ho17⟩
        refine WC.use hc hs ?_
        clear hc hs
        unfold ref16_Link_Send_vvvvvvvvoov_k2 at hr
        refine WC.then ?_
        refine WC.region [(0, true)] rfl ?_
        refine WO.assign rfl rfl rfl rfl ?_
        refine WO.done ?_
        refine At.seq_wc ?_
        refine WC.ret ?_
        obtain rfl := Option.some.inj hr
        exact At.ret (fun a w hc hs => (resVs_cons (hc.res rfl) resVs_nil)) (fun w hs => ⟨(List.flatten [w7]), _, _, _, _, _, _, rfl, ((hs.arrange 2 3 [0, 1] [4, 2, 3] (by decide)).gather 1), (ho12.mono mono_ref16_Body (Mem.le_gather (Mem.add F w7) 1)), (ho17.mono mono_ref16_Early (Mem.le.trans (Mem.le_pick (Mem.add F w7) 1 [] (by decide)) (Mem.le_gather (Mem.add F w7) 1)))⟩)
/-! (*peloton/pelotonref16.Link).Tick -/
def ref16_Link_Tick_vvvvvvvvoov_k2 (v8 : S_ref16_Link) (v20 : List S_api_Seg) : Option ((List S_api_Seg) × S_ref16_Link) := some (v20, (⟨v8.Window, v8.Span, v8.Room, v8.Epoch, v8.Next, v8.Acked, v8.Sent, v8.Got, v8.Out, v8.Early, false⟩ : S_ref16_Link))
def ref16_Link_Tick_vvvvvvvvoov_k3 (v2 : List S_api_Seg) (v8 : S_ref16_Link) (v27 : Bool) : Option ((List S_api_Seg) × S_ref16_Link) := cond v27 ((app v2 [(⟨v8.Epoch, 0, v8.Got, []⟩ : S_api_Seg)]).bind fun x31 => ref16_Link_Tick_vvvvvvvvoov_k2 v8 x31) (ref16_Link_Tick_vvvvvvvvoov_k2 v8 v2)
def ref16_Link_Tick_vvvvvvvvoov_k1 (v2 : List S_api_Seg) (v8 : S_ref16_Link) : Option ((List S_api_Seg) × S_ref16_Link) := cond ((v2.length : Int) == 0) (ref16_Link_Tick_vvvvvvvvoov_k3 v2 v8 v8.Owes) (ref16_Link_Tick_vvvvvvvvoov_k3 v2 v8 false)
def ref16_Link_Tick_vvvvvvvvoov_k6 (v65 : Int) (v116 : List S_api_Seg) (v122 : S_ref16_Link) : Option (((List S_api_Seg) × Int × S_ref16_Link) ⊕ ((List S_api_Seg) × S_ref16_Link)) := some (.inl (v116, (IntKind.wrap .i64 (v65 + 1)), v122))
def ref16_Link_Tick_vvvvvvvvoov_k9 (v59 : List S_api_Seg) (v65 : Int) (v66 : S_ref16_Link) (v142 : List S_ref16_Body) (x149 : S_ref16_Body) (v163 : Int) : Option (((List S_api_Seg) × Int × S_ref16_Link) ⊕ ((List S_api_Seg) × S_ref16_Link)) := (getI (List.set v142 (Int.toNat v65) (⟨x149.Seq, 0, x149.B⟩ : S_ref16_Body)) v65).bind fun x164 => (getI (List.set v142 (Int.toNat v65) (⟨x149.Seq, 0, x149.B⟩ : S_ref16_Body)) v65).bind fun x174 => (app v59 [(⟨v66.Epoch, x164.Seq, v66.Got, x174.B⟩ : S_api_Seg)]).bind fun x186 => ref16_Link_Tick_vvvvvvvvoov_k6 v65 x186 (⟨v66.Window, v66.Span, v66.Room, v66.Epoch, v66.Next, v66.Acked, v163, v66.Got, (List.set v142 (Int.toNat v65) (⟨x149.Seq, 0, x149.B⟩ : S_ref16_Body)), v66.Early, v66.Owes⟩ : S_ref16_Link)
def ref16_Link_Tick_vvvvvvvvoov_k8 (v59 : List S_api_Seg) (v65 : Int) (v66 : S_ref16_Link) (v141 : Bool) (v142 : List S_ref16_Body) : Option (((List S_api_Seg) × Int × S_ref16_Link) ⊕ ((List S_api_Seg) × S_ref16_Link)) := cond v141 (ref16_Link_Tick_vvvvvvvvoov_k6 v65 v59 (⟨v66.Window, v66.Span, v66.Room, v66.Epoch, v66.Next, v66.Acked, v66.Sent, v66.Got, v142, v66.Early, v66.Owes⟩ : S_ref16_Link)) ((getI v142 v65).bind fun x149 => (getI (List.set v142 (Int.toNat v65) (⟨x149.Seq, 0, x149.B⟩ : S_ref16_Body)) v65).bind fun x192 => cond (decide (x192.Seq > v66.Sent)) ((getI (List.set v142 (Int.toNat v65) (⟨x149.Seq, 0, x149.B⟩ : S_ref16_Body)) v65).bind fun x203 => ref16_Link_Tick_vvvvvvvvoov_k9 v59 v65 v66 v142 x149 x203.Seq) (ref16_Link_Tick_vvvvvvvvoov_k9 v59 v65 v66 v142 x149 v66.Sent))
def ref16_Link_Tick_vvvvvvvvoov_k7 (v59 : List S_api_Seg) (v65 : Int) (v66 : S_ref16_Link) (v134 : List S_ref16_Body) : Option (((List S_api_Seg) × Int × S_ref16_Link) ⊕ ((List S_api_Seg) × S_ref16_Link)) := (getI v134 v65).bind fun x213 => cond (decide (x213.Seq > (IntKind.wrap .i64 (v66.Acked + v66.Window)))) (ref16_Link_Tick_vvvvvvvvoov_k8 v59 v65 v66 true v134) ((getI v134 v65).bind fun x224 => cond (decide (x224.Since ≥ 0)) ((getI v134 v65).bind fun x235 => ref16_Link_Tick_vvvvvvvvoov_k8 v59 v65 v66 (decide (x235.Since < v66.Span)) v134) (ref16_Link_Tick_vvvvvvvvoov_k8 v59 v65 v66 false v134))
def ref16_Link_Tick_vvvvvvvvoov_b4 (v59 : List S_api_Seg) (v65 : Int) (v66 : S_ref16_Link) : Option (((List S_api_Seg) × Int × S_ref16_Link) ⊕ ((List S_api_Seg) × S_ref16_Link)) := cond (decide (v65 < (v66.Out.length : Int))) ((getI v66.Out v65).bind fun x245 => cond (decide (x245.Since ≥ 0)) ((getI v66.Out v65).bind fun x256 => (getI v66.Out v65).bind fun x266 => ref16_Link_Tick_vvvvvvvvoov_k7 v59 v65 v66 (List.set v66.Out (Int.toNat v65) (⟨x266.Seq, (IntKind.wrap .i64 (x256.Since + 1)), x266.B⟩ : S_ref16_Body))) (ref16_Link_Tick_vvvvvvvvoov_k7 v59 v65 v66 v66.Out)) (some (.inr (v59, v66)))
def ref16_Link_Tick_vvvvvvvvoov (p0 : S_ref16_Link) : Option ((List S_api_Seg) × S_ref16_Link) := (loopO (fun s => ref16_Link_Tick_vvvvvvvvoov_b4  s.1 s.2.1 s.2.2) (([] : List S_api_Seg), 0, p0)).bind (fun (v97, v103) => ref16_Link_Tick_vvvvvvvvoov_k1 v97 v103)
theorem ref16_Link_Tick_vvvvvvvvoov_ok {F : Mem} {p0 : S_ref16_Link} {b_0 : Nat} {a_0_8 : Option Addr} {c_0_8 : Nat} {ψ_0_8 : List Chunk} (ho_0_8 : OwnL 3 R_ref16_Body F 81 a_0_8 c_0_8 p0.Out ψ_0_8) {a_0_9 : Option Addr} {c_0_9 : Nat} {ψ_0_9 : List Chunk} (ho_0_9 : OwnL 2 R_ref16_Early F 88 a_0_9 c_0_9 p0.Early ψ_0_9) {r : (List S_api_Seg) × S_ref16_Link} (hr : ref16_Link_Tick_vvvvvvvvoov p0 = some r) (Φ : List (List Chunk)) :
    CallsRet Try.prog 17 (List.toArray [.pointer (some ⟨b_0, 0, none⟩)]) F ([(b_0, row [.int .i64 p0.Window, .int .i64 p0.Span, .int .i64 p0.Room, .int .i64 p0.Epoch, .int .i64 p0.Next, .int .i64 p0.Acked, .int .i64 p0.Sent, .int .i64 p0.Got, .slice a_0_8 p0.Out.length c_0_8, .slice a_0_9 p0.Early.length c_0_9, .bool p0.Owes] 54)] :: ψ_0_8 :: ψ_0_9 :: Φ) (fun v w => ∃ a0 c0 ψ0 a0_8 c0_8 ψ0_8 a0_9 c0_9 ψ0_9, v = .slice a0 r.1.length c0 ∧ Sat F (ψ0 :: [(b_0, row [.int .i64 r.2.Window, .int .i64 r.2.Span, .int .i64 r.2.Room, .int .i64 r.2.Epoch, .int .i64 r.2.Next, .int .i64 r.2.Acked, .int .i64 r.2.Sent, .int .i64 r.2.Got, .slice a0_8 r.2.Out.length c0_8, .slice a0_9 r.2.Early.length c0_9, .bool r.2.Owes] 54)] :: ψ0_8 :: ψ0_9 :: Φ) w ∧ OwnL 4 R_api_Seg F 46 a0 c0 r.1 ψ0 ∧ OwnL 3 R_ref16_Body F 81 a0_8 c0_8 r.2.Out ψ0_8 ∧ OwnL 2 R_ref16_Early F 88 a0_9 c0_9 r.2.Early ψ0_9) := by
  refine CallsRet.enter (rs := [.tmp 2]) Try.func17 rfl rfl rfl rfl ?_
  unfold ref16_Link_Tick_vvvvvvvvoov at hr
  refine WC.then ?_
  refine WC.region [(0, true)] rfl ?_
  refine WO.assign rfl rfl rfl rfl ?_
  refine WO.done ?_
  refine At.seq_wc ?_
  refine WC.then ?_
  refine WC.region [(0, true)] rfl ?_
  refine WO.assign rfl rfl rfl rfl ?_
  refine WO.done ?_
  refine At.seq_wc ?_
  refine WC.seq (fun a w => ∃ (v2 : List S_api_Seg) (v8 : S_ref16_Link) (a3 : Option Addr) (c4 : Nat) (p5 : List Chunk) (a9 : Option Addr) (c10 : Nat) (p11 : List Chunk) (a14 : Option Addr) (c15 : Nat) (p16 : List Chunk), ref16_Link_Tick_vvvvvvvvoov_k1 v2 v8 = some r ∧ Ctx 167 [(0, .pointer (some ⟨b_0, 0, none⟩)), (3, .slice a3 v2.length c4)] a ∧ Sat F (p5 :: p11 :: p16 :: [(b_0, row [.int .i64 v8.Window, .int .i64 v8.Span, .int .i64 v8.Room, .int .i64 v8.Epoch, .int .i64 v8.Next, .int .i64 v8.Acked, .int .i64 v8.Sent, .int .i64 v8.Got, .slice a9 v8.Out.length c10, .slice a14 v8.Early.length c15, .bool v8.Owes] 54)] :: Φ) w ∧ OwnL 4 R_api_Seg F 46 a3 c4 v2 p5 ∧ OwnL 3 R_ref16_Body F 81 a9 c10 v8.Out p11 ∧ OwnL 2 R_ref16_Early F 88 a14 c15 v8.Early p16) ?_ ?_
  · refine WC.then ?_
    refine WC.region [(0, true)] rfl ?_
    refine WO.assign rfl rfl rfl rfl ?_
    refine WO.done ?_
    refine At.seq_wc ?_
    obtain ⟨xl5, hl5, hk5⟩ := bind_some' hr
    refine WC.weaken (fun a w => ∃ (v97 : List S_api_Seg) (v103 : S_ref16_Link) (a98 : Option Addr) (c99 : Nat) (p100 : List Chunk) (a104 : Option Addr) (c105 : Nat) (p106 : List Chunk) (a109 : Option Addr) (c110 : Nat) (p111 : List Chunk), (v97, v103) = xl5 ∧ Ctx 167 [(0, .pointer (some ⟨b_0, 0, none⟩)), (3, .slice a98 v97.length c99)] a ∧ Sat F (p100 :: p106 :: p111 :: [(b_0, row [.int .i64 v103.Window, .int .i64 v103.Span, .int .i64 v103.Room, .int .i64 v103.Epoch, .int .i64 v103.Next, .int .i64 v103.Acked, .int .i64 v103.Sent, .int .i64 v103.Got, .slice a104 v103.Out.length c105, .slice a109 v103.Early.length c110, .bool v103.Owes] 54)] :: Φ) w ∧ OwnL 4 R_api_Seg F 46 a98 c99 v97 p100 ∧ OwnL 3 R_ref16_Body F 81 a104 c105 v103.Out p106 ∧ OwnL 2 R_ref16_Early F 88 a109 c110 v103.Early p111) ?_ ?_
    · refine WC.block ?_
      refine WC.loop (fun ⟨v59, v65, v66⟩ a w => ∃ (a60 : Option Addr) (c61 : Nat) (p62 : List Chunk) (a67 : Option Addr) (c68 : Nat) (p69 : List Chunk) (a72 : Option Addr) (c73 : Nat) (p74 : List Chunk), Ctx 167 [(0, .pointer (some ⟨b_0, 0, none⟩)), (3, .slice a60 v59.length c61), (4, .int .i64 v65)] a ∧ Sat F (p62 :: p69 :: p74 :: [(b_0, row [.int .i64 v66.Window, .int .i64 v66.Span, .int .i64 v66.Room, .int .i64 v66.Epoch, .int .i64 v66.Next, .int .i64 v66.Acked, .int .i64 v66.Sent, .int .i64 v66.Got, .slice a67 v66.Out.length c68, .slice a72 v66.Early.length c73, .bool v66.Owes] 54)] :: Φ) w ∧ OwnL 4 R_api_Seg F 46 a60 c61 v59 p62 ∧ OwnL 3 R_ref16_Body F 81 a67 c68 v66.Out p69 ∧ OwnL 2 R_ref16_Early F 88 a72 c73 v66.Early p74) hl5 ?_ ?_
      · refine At.empty ?_
        have ho280 : OwnL 4 R_api_Seg F 46 none 0 ([] : List S_api_Seg) [] := OwnL.nil
        exact fun a w hc hs => ⟨none, 0, [], a_0_8, c_0_8, ψ_0_8, a_0_9, c_0_9, ψ_0_9, (hc.keep (hc.keep (hc.keep hc.nil (t := 4) rfl) (t := 3) rfl) (t := 0) rfl), (hs.arrange 0 4 [] [0, 2, 3, 1] (by decide)), ho280, ho_0_8, ho_0_9⟩
      · rintro ⟨v59, v65, v66⟩ r5 hr a w ⟨a60, c61, p62, a67, c68, p69, a72, c73, p74, hc, hs, ho63, ho70, ho75⟩
        refine WC.use hc hs ?_
        clear hc hs
        (try dsimp only at hr)
        unfold ref16_Link_Tick_vvvvvvvvoov_b4 at hr
        refine WC.then ?_
        refine WC.then ?_
        refine WC.region [(0, true), (1, true), (2, true), (3, true), (4, false), (5, true), (6, true)] rfl ?_
        refine WO.move rfl rfl rfl rfl ?_
        refine WO.move rfl rfl rfl rfl ?_
        refine WO.nilCheck rfl rfl rfl rfl ?_
        refine WO.fieldAddr 8 rfl rfl rfl rfl fl_54_8 ?_
        refine WO.load 3 rfl rfl rfl rfl sc_51 rfl rfl ?_
        refine WO.len rfl rfl rfl rfl Try.underlying51 ?_
        refine WO.bin rfl rfl rfl rfl rfl rfl ?_
        refine WO.done ?_
        refine At.seq_wc ?_
        refine WC.cond rfl (fun hb114 => ?_) (fun hb114 => ?_)
        · have hr := cond_t hb114 hr
          refine WC.skip ?_
          refine At.seq_wc ?_
          refine WC.seq (fun a w => ∃ (v116 : List S_api_Seg) (v122 : S_ref16_Link) (a117 : Option Addr) (c118 : Nat) (p119 : List Chunk) (a123 : Option Addr) (c124 : Nat) (p125 : List Chunk) (a128 : Option Addr) (c129 : Nat) (p130 : List Chunk), ref16_Link_Tick_vvvvvvvvoov_k6 v65 v116 v122 = some r5 ∧ Ctx 167 [(0, .pointer (some ⟨b_0, 0, none⟩)), (3, .slice a117 v116.length c118), (4, .int .i64 v65)] a ∧ Sat F (p119 :: p125 :: p130 :: [(b_0, row [.int .i64 v122.Window, .int .i64 v122.Span, .int .i64 v122.Room, .int .i64 v122.Epoch, .int .i64 v122.Next, .int .i64 v122.Acked, .int .i64 v122.Sent, .int .i64 v122.Got, .slice a123 v122.Out.length c124, .slice a128 v122.Early.length c129, .bool v122.Owes] 54)] :: Φ) w ∧ OwnL 4 R_api_Seg F 46 a117 c118 v116 p119 ∧ OwnL 3 R_ref16_Body F 81 a123 c124 v122.Out p125 ∧ OwnL 2 R_ref16_Early F 88 a128 c129 v122.Early p130) ?_ ?_
          · refine WC.block ?_
            refine WC.seq (fun a w => ∃ (v134 : List S_ref16_Body) (a135 : Option Addr) (c136 : Nat) (p137 : List Chunk), ref16_Link_Tick_vvvvvvvvoov_k7 v59 v65 v66 v134 = some r5 ∧ Ctx 167 [(0, .pointer (some ⟨b_0, 0, none⟩)), (3, .slice a60 v59.length c61), (4, .int .i64 v65)] a ∧ Sat F (p137 :: p62 :: p74 :: [(b_0, row [.int .i64 v66.Window, .int .i64 v66.Span, .int .i64 v66.Room, .int .i64 v66.Epoch, .int .i64 v66.Next, .int .i64 v66.Acked, .int .i64 v66.Sent, .int .i64 v66.Got, .slice a135 v134.length c136, .slice a72 v66.Early.length c73, .bool v66.Owes] 54)] :: Φ) w ∧ OwnL 3 R_ref16_Body F 81 a135 c136 v134 p137) ?_ ?_
            · refine WC.then ?_
              refine WC.region [(0, true), (1, true), (2, true), (3, false), (4, true), (5, true), (6, true), (7, false), (8, true)] rfl ?_
              refine WO.move rfl rfl rfl rfl ?_
              refine WO.nilCheck rfl rfl rfl rfl ?_
              refine WO.fieldAddr 8 rfl rfl rfl rfl fl_54_8 ?_
              refine WO.load 3 rfl rfl rfl rfl sc_51 rfl rfl ?_
              refine WO.move rfl rfl rfl rfl ?_
              obtain ⟨x245, hx246, hr⟩ := bind_some' hr
              refine WO.indexQ ho70 hx246 rfl rfl rfl rfl rfl rfl Try.underlying51 sz_81 (fun b247 cs248 hb249 h250 hq251 => ?_)
              subst hb249
              obtain ⟨a252, c253, rfl, h254⟩ := h250
              refine WO.fieldAddr 1 rfl rfl rfl rfl fl_81_1 ?_
              refine WO.loadQ 1 1 hq251 rfl rfl rfl rfl rfl rfl sc_3 rfl ?_
              refine WO.bin rfl rfl rfl rfl rfl rfl ?_
              refine WO.done ?_
              refine At.seq_wc ?_
              refine WC.cond rfl (fun hb255 => ?_) (fun hb255 => ?_)
              · have hr := cond_t hb255 hr
                refine WC.draw (Sat F (p62 :: [(b_0, row [.int .i64 v66.Window, .int .i64 v66.Span, .int .i64 v66.Room, .int .i64 v66.Epoch, .int .i64 v66.Next, .int .i64 v66.Acked, .int .i64 v66.Sent, .int .i64 v66.Got, .slice (some ⟨b247, 0, none⟩) v66.Out.length c68, .slice a72 v66.Early.length c73, .bool v66.Owes] 54)] :: Φ)) (fun _ h => (h.arrange 0 4 [] [0, 3] (by decide))) [(0, true), (1, true), (2, true), (3, true), (4, true), (5, true), (6, true), (7, true), (8, true), (9, true), (10, true), (11, true), (12, false), (13, true), (14, true), (15, true), (16, false)] mixed (by kernel_rfl) rfl (by kernel_rfl) ?_
                refine WO.move rfl rfl rfl rfl ?_
                refine WO.nilCheck rfl rfl rfl rfl ?_
                refine WO.fieldAddr 8 rfl rfl rfl rfl fl_54_8 ?_
                refine WO.loadY 1 rfl rfl rfl rfl sc_51 rfl rfl ?_
                refine WO.move rfl rfl rfl rfl ?_
                refine WO.move rfl rfl rfl rfl ?_
                refine WO.nilCheck rfl rfl rfl rfl ?_
                refine WO.fieldAddr 8 rfl rfl rfl rfl fl_54_8 ?_
                refine WO.loadY 1 rfl rfl rfl rfl sc_51 rfl rfl ?_
                refine WO.move rfl rfl rfl rfl ?_
                obtain ⟨x256, hx257, hr⟩ := bind_some' hr
                refine WO.indexQ ho70 hx257 rfl rfl rfl rfl rfl rfl Try.underlying51 sz_81 (fun b258 cs259 hb260 h261 hq262 => ?_)
                obtain rfl : b247 = b258 := by cases hb260; rfl
                obtain ⟨a263, c264, rfl, h265⟩ := h261
                refine WO.fieldAddr 1 rfl rfl rfl rfl fl_81_1 ?_
                refine WO.loadQ 1 1 hq262 rfl rfl rfl rfl rfl rfl sc_3 rfl ?_
                refine WO.bin rfl rfl rfl rfl rfl rfl ?_
                obtain ⟨x266, hx267, hr⟩ := bind_some' hr
                refine WO.indexQ ho70 hx267 rfl rfl rfl rfl rfl rfl Try.underlying51 sz_81 (fun b268 cs269 hb270 h271 hq272 => ?_)
                obtain rfl : b247 = b268 := by cases hb270; rfl
                obtain ⟨a273, c274, rfl, h275⟩ := h271
                refine WO.fieldAddr 1 rfl rfl rfl rfl fl_81_1 ?_
                refine WO.storeQ 1 1 (⟨x266.Seq, (IntKind.wrap .i64 (x256.Since + 1)), x266.B⟩ : S_ref16_Body) hq272 rfl rfl rfl rfl rfl rfl sz_3 rfl rfl ⟨_, _, rfl, h275⟩ rfl (fun _ _ h => (h.arrange 0 4 [] [0, 3] (by decide))) (fun p276 ho277 hq278 => ?_)
                refine WO.relen 9 (k' := (List.set v66.Out (Int.toNat v65) (⟨x266.Seq, (IntKind.wrap .i64 (x256.Since + 1)), x266.B⟩ : S_ref16_Body)).length) rfl (List.length_set ..).symm ?_
                refine WO.relen 17 (k' := (List.set v66.Out (Int.toNat v65) (⟨x266.Seq, (IntKind.wrap .i64 (x256.Since + 1)), x266.B⟩ : S_ref16_Body)).length) rfl (List.length_set ..).symm ?_
                refine WO.relen 26 (k' := (List.set v66.Out (Int.toNat v65) (⟨x266.Seq, (IntKind.wrap .i64 (x256.Since + 1)), x266.B⟩ : S_ref16_Body)).length) rfl (List.length_set ..).symm ?_
                refine WO.relen 31 (k' := (List.set v66.Out (Int.toNat v65) (⟨x266.Seq, (IntKind.wrap .i64 (x256.Since + 1)), x266.B⟩ : S_ref16_Body)).length) rfl (List.length_set ..).symm ?_
                refine WO.recell 3 [.int .i64 v66.Window, .int .i64 v66.Span, .int .i64 v66.Room, .int .i64 v66.Epoch, .int .i64 v66.Next, .int .i64 v66.Acked, .int .i64 v66.Sent, .int .i64 v66.Got, .slice (some ⟨b247, 0, none⟩) ((List.set v66.Out (Int.toNat v65) (⟨x266.Seq, (IntKind.wrap .i64 (x256.Since + 1)), x266.B⟩ : S_ref16_Body)).length) c68, .slice a72 v66.Early.length c73, .bool v66.Owes] rfl (by simp only [List.length_set]) ?_
                refine WO.done ?_
                refine At.seq_at ?_
                exact fun a w hc hs => ⟨(List.set v66.Out (Int.toNat v65) (⟨x266.Seq, (IntKind.wrap .i64 (x256.Since + 1)), x266.B⟩ : S_ref16_Body)), (some ⟨b247, 0, none⟩), c68, p276, hr, (hc.keep (hc.keep (hc.keep hc.nil (t := 4) rfl) (t := 3) rfl) (t := 0) rfl), (hs.arrange 0 4 [] [1, 0, 2, 3] (by decide)), ho277⟩
              · have hr := cond_f hb255 hr
                refine WC.skip ?_
                refine At.seq_at ?_
                exact fun a w hc hs => ⟨v66.Out, (some ⟨b247, 0, none⟩), c68, p69, hr, (hc.keep (hc.keep (hc.keep hc.nil (t := 4) rfl) (t := 3) rfl) (t := 0) rfl), (hs.arrange 0 4 [] [1, 0, 2, 3] (by decide)), ho70⟩
            · rintro a w ⟨v134, a135, c136, p137, hr, hc, hs, ho138⟩
              refine WC.use hc hs ?_
              clear hc hs
              unfold ref16_Link_Tick_vvvvvvvvoov_k7 at hr
              refine WC.then ?_
              refine WC.seq (fun a w => ∃ (v141 : Bool) (v142 : List S_ref16_Body) (a143 : Option Addr) (c144 : Nat) (p145 : List Chunk), ref16_Link_Tick_vvvvvvvvoov_k8 v59 v65 v66 v141 v142 = some r5 ∧ Ctx 167 [(0, .pointer (some ⟨b_0, 0, none⟩)), (3, .slice a60 v59.length c61), (4, .int .i64 v65), (82, .bool v141)] a ∧ Sat F (p145 :: p62 :: p74 :: [(b_0, row [.int .i64 v66.Window, .int .i64 v66.Span, .int .i64 v66.Room, .int .i64 v66.Epoch, .int .i64 v66.Next, .int .i64 v66.Acked, .int .i64 v66.Sent, .int .i64 v66.Got, .slice a143 v142.length c144, .slice a72 v66.Early.length c73, .bool v66.Owes] 54)] :: Φ) w ∧ OwnL 3 R_ref16_Body F 81 a143 c144 v142 p145) ?_ ?_
              · refine WC.draw (Sat F (p137 :: p62 :: p74 :: [(b_0, row [.int .i64 v66.Window, .int .i64 v66.Span, .int .i64 v66.Room, .int .i64 v66.Epoch, .int .i64 v66.Next, .int .i64 v66.Acked, .int .i64 v66.Sent, .int .i64 v66.Got, .slice a135 v134.length c136, .slice a72 v66.Early.length c73, .bool v66.Owes] 54)] :: Φ)) (fun _ h => (h.arrange 0 4 [] [0, 1, 2, 3] (by decide))) [(0, true), (1, true), (2, true), (3, true), (4, true), (5, true), (6, true), (7, true), (8, true), (9, true), (10, true), (11, true), (12, true), (13, true), (14, true), (15, true), (16, true), (17, true), (18, true), (19, true), (20, true), (21, true), (22, true), (23, true), (24, true), (25, true), (26, true), (27, true), (28, true), (29, true), (30, true), (31, true), (32, true), (33, true), (34, true), (35, true), (36, true), (37, true), (38, true), (39, true), (40, true), (41, true), (42, true), (43, true)] mixed (by kernel_rfl) rfl (by kernel_rfl) ?_
                refine WO.move rfl rfl rfl rfl ?_
                refine WO.nilCheck rfl rfl rfl rfl ?_
                refine WO.fieldAddr 8 rfl rfl rfl rfl fl_54_8 ?_
                refine WO.loadY 3 rfl rfl rfl rfl sc_51 rfl rfl ?_
                refine WO.move rfl rfl rfl rfl ?_
                obtain ⟨x213, hx214, hr⟩ := bind_some' hr
                refine WO.indexQ ho138 hx214 rfl rfl rfl rfl rfl rfl Try.underlying51 sz_81 (fun b215 cs216 hb217 h218 hq219 => ?_)
                subst hb217
                obtain ⟨a220, c221, rfl, h222⟩ := h218
                refine WO.fieldAddr 0 rfl rfl rfl rfl fl_81_0 ?_
                refine WO.loadQY 0 0 hq219 rfl rfl rfl rfl rfl rfl sc_3 rfl ?_
                refine WO.move rfl rfl rfl rfl ?_
                refine WO.nilCheck rfl rfl rfl rfl ?_
                refine WO.fieldAddr 5 rfl rfl rfl rfl fl_54_5 ?_
                refine WO.loadY 3 rfl rfl rfl rfl sc_3 rfl rfl ?_
                refine WO.move rfl rfl rfl rfl ?_
                refine WO.nilCheck rfl rfl rfl rfl ?_
                refine WO.fieldAddr 0 rfl rfl rfl rfl fl_54_0 ?_
                refine WO.loadY 3 rfl rfl rfl rfl sc_3 rfl rfl ?_
                refine WO.bin rfl rfl rfl rfl rfl rfl ?_
                refine WO.bin rfl rfl rfl rfl rfl rfl ?_
                refine WO.move rfl rfl rfl rfl ?_
                refine WO.split (t := 57) rfl (fun hg223 => ?_) (fun hg223 => ?_)
                · have hr := cond_t hg223 hr
                  refine WO.skip rfl rfl rfl rfl ?_
                  refine WO.skip rfl rfl rfl rfl ?_
                  refine WO.skip rfl rfl rfl rfl ?_
                  refine WO.skip rfl rfl rfl rfl ?_
                  refine WO.skip rfl rfl rfl rfl ?_
                  refine WO.skip rfl rfl rfl rfl ?_
                  refine WO.skip rfl rfl rfl rfl ?_
                  refine WO.skip rfl rfl rfl rfl ?_
                  refine WO.skip rfl rfl rfl rfl ?_
                  refine WO.skip rfl rfl rfl rfl ?_
                  refine WO.skip rfl rfl rfl rfl ?_
                  refine WO.skip rfl rfl rfl rfl ?_
                  refine WO.skip rfl rfl rfl rfl ?_
                  refine WO.skip rfl rfl rfl rfl ?_
                  refine WO.skip rfl rfl rfl rfl ?_
                  refine WO.skip rfl rfl rfl rfl ?_
                  refine WO.skip rfl rfl rfl rfl ?_
                  refine WO.skip rfl rfl rfl rfl ?_
                  refine WO.skip rfl rfl rfl rfl ?_
                  refine WO.skip rfl rfl rfl rfl ?_
                  refine WO.skip rfl rfl rfl rfl ?_
                  refine WO.skip rfl rfl rfl rfl ?_
                  refine WO.skip rfl rfl rfl rfl ?_
                  refine WO.skip rfl rfl rfl rfl ?_
                  refine WO.pickT rfl rfl rfl rfl rfl ?_
                  refine WO.done ?_
                  refine At.seq_at ?_
                  exact fun a w hc hs => ⟨true, v134, (some ⟨b215, 0, none⟩), c136, p137, hr, (hc.keep (hc.keep (hc.keep (hc.keep hc.nil (t := 82) rfl) (t := 4) rfl) (t := 3) rfl) (t := 0) rfl), hs, ho138⟩
                · have hr := cond_f hg223 hr
                  refine WO.move rfl rfl rfl rfl ?_
                  refine WO.nilCheck rfl rfl rfl rfl ?_
                  refine WO.fieldAddr 8 rfl rfl rfl rfl fl_54_8 ?_
                  refine WO.loadY 3 rfl rfl rfl rfl sc_51 rfl rfl ?_
                  refine WO.move rfl rfl rfl rfl ?_
                  obtain ⟨x224, hx225, hr⟩ := bind_some' hr
                  refine WO.indexQ ho138 hx225 rfl rfl rfl rfl rfl rfl Try.underlying51 sz_81 (fun b226 cs227 hb228 h229 hq230 => ?_)
                  obtain rfl : b215 = b226 := by cases hb228; rfl
                  obtain ⟨a231, c232, rfl, h233⟩ := h229
                  refine WO.fieldAddr 1 rfl rfl rfl rfl fl_81_1 ?_
                  refine WO.loadQY 0 1 hq230 rfl rfl rfl rfl rfl rfl sc_3 rfl ?_
                  refine WO.bin rfl rfl rfl rfl rfl rfl ?_
                  refine WO.move rfl rfl rfl rfl ?_
                  refine WO.split (t := 67) rfl (fun hg234 => ?_) (fun hg234 => ?_)
                  · have hr := cond_t hg234 hr
                    refine WO.move rfl rfl rfl rfl ?_
                    refine WO.nilCheck rfl rfl rfl rfl ?_
                    refine WO.fieldAddr 8 rfl rfl rfl rfl fl_54_8 ?_
                    refine WO.loadY 3 rfl rfl rfl rfl sc_51 rfl rfl ?_
                    refine WO.move rfl rfl rfl rfl ?_
                    obtain ⟨x235, hx236, hr⟩ := bind_some' hr
                    refine WO.indexQ ho138 hx236 rfl rfl rfl rfl rfl rfl Try.underlying51 sz_81 (fun b237 cs238 hb239 h240 hq241 => ?_)
                    obtain rfl : b215 = b237 := by cases hb239; rfl
                    obtain ⟨a242, c243, rfl, h244⟩ := h240
                    refine WO.fieldAddr 1 rfl rfl rfl rfl fl_81_1 ?_
                    refine WO.loadQY 0 1 hq241 rfl rfl rfl rfl rfl rfl sc_3 rfl ?_
                    refine WO.move rfl rfl rfl rfl ?_
                    refine WO.nilCheck rfl rfl rfl rfl ?_
                    refine WO.fieldAddr 1 rfl rfl rfl rfl fl_54_1 ?_
                    refine WO.loadY 3 rfl rfl rfl rfl sc_3 rfl rfl ?_
                    refine WO.bin rfl rfl rfl rfl rfl rfl ?_
                    refine WO.pickT rfl rfl rfl rfl rfl ?_
                    refine WO.pickF rfl rfl rfl rfl rfl ?_
                    refine WO.done ?_
                    refine At.seq_at ?_
                    exact fun a w hc hs => ⟨(decide (x235.Since < v66.Span)), v134, (some ⟨b215, 0, none⟩), c136, p137, hr, (hc.keep (hc.keep (hc.keep (hc.keep hc.nil (t := 82) rfl) (t := 4) rfl) (t := 3) rfl) (t := 0) rfl), hs, ho138⟩
                  · have hr := cond_f hg234 hr
                    refine WO.skip rfl rfl rfl rfl ?_
                    refine WO.skip rfl rfl rfl rfl ?_
                    refine WO.skip rfl rfl rfl rfl ?_
                    refine WO.skip rfl rfl rfl rfl ?_
                    refine WO.skip rfl rfl rfl rfl ?_
                    refine WO.skip rfl rfl rfl rfl ?_
                    refine WO.skip rfl rfl rfl rfl ?_
                    refine WO.skip rfl rfl rfl rfl ?_
                    refine WO.skip rfl rfl rfl rfl ?_
                    refine WO.skip rfl rfl rfl rfl ?_
                    refine WO.skip rfl rfl rfl rfl ?_
                    refine WO.skip rfl rfl rfl rfl ?_
                    refine WO.skip rfl rfl rfl rfl ?_
                    refine WO.pickF rfl rfl rfl rfl rfl ?_
                    refine WO.pickF rfl rfl rfl rfl rfl ?_
                    refine WO.done ?_
                    refine At.seq_at ?_
                    exact fun a w hc hs => ⟨false, v134, (some ⟨b215, 0, none⟩), c136, p137, hr, (hc.keep (hc.keep (hc.keep (hc.keep hc.nil (t := 82) rfl) (t := 4) rfl) (t := 3) rfl) (t := 0) rfl), hs, ho138⟩
              · rintro a w ⟨v141, v142, a143, c144, p145, hr, hc, hs, ho146⟩
                refine WC.use hc hs ?_
                clear hc hs
                unfold ref16_Link_Tick_vvvvvvvvoov_k8 at hr
                refine WC.cond rfl (fun hb148 => ?_) (fun hb148 => ?_)
                · have hr := cond_t hb148 hr
                  refine WC.exit ?_
                  refine At.seq_exit ?_
                  refine At.exit_block ?_
                  refine At.seq_at ?_
                  exact fun a w hc hs => ⟨v59, (⟨v66.Window, v66.Span, v66.Room, v66.Epoch, v66.Next, v66.Acked, v66.Sent, v66.Got, v142, v66.Early, v66.Owes⟩ : S_ref16_Link), a60, c61, p62, a143, c144, p145, a72, c73, p74, hr, (hc.keep (hc.keep (hc.keep hc.nil (t := 4) rfl) (t := 3) rfl) (t := 0) rfl), (hs.arrange 0 4 [] [1, 0, 2, 3] (by decide)), ho63, ho146, ho75⟩
                · have hr := cond_f hb148 hr
                  refine WC.skip ?_
                  refine At.seq_wc ?_
                  refine WC.then ?_
                  refine WC.region [(0, true), (1, true), (2, true), (3, false), (4, true), (5, true), (6, true), (7, false)] rfl ?_
                  refine WO.move rfl rfl rfl rfl ?_
                  refine WO.nilCheck rfl rfl rfl rfl ?_
                  refine WO.fieldAddr 8 rfl rfl rfl rfl fl_54_8 ?_
                  refine WO.load 3 rfl rfl rfl rfl sc_51 rfl rfl ?_
                  refine WO.move rfl rfl rfl rfl ?_
                  obtain ⟨x149, hx150, hr⟩ := bind_some' hr
                  refine WO.indexQ ho146 hx150 rfl rfl rfl rfl rfl rfl Try.underlying51 sz_81 (fun b151 cs152 hb153 h154 hq155 => ?_)
                  subst hb153
                  obtain ⟨a156, c157, rfl, h158⟩ := h154
                  refine WO.fieldAddr 1 rfl rfl rfl rfl fl_81_1 ?_
                  refine WO.storeQ 0 1 (⟨x149.Seq, 0, x149.B⟩ : S_ref16_Body) hq155 rfl rfl rfl rfl rfl rfl sz_3 rfl rfl ⟨_, _, rfl, h158⟩ rfl (fun _ _ _ => trivial) (fun p159 ho160 hq161 => ?_)
                  refine WO.relen 86 (k' := (List.set v142 (Int.toNat v65) (⟨x149.Seq, 0, x149.B⟩ : S_ref16_Body)).length) rfl (List.length_set ..).symm ?_
                  refine WO.recell 3 [.int .i64 v66.Window, .int .i64 v66.Span, .int .i64 v66.Room, .int .i64 v66.Epoch, .int .i64 v66.Next, .int .i64 v66.Acked, .int .i64 v66.Sent, .int .i64 v66.Got, .slice (some ⟨b151, 0, none⟩) ((List.set v142 (Int.toNat v65) (⟨x149.Seq, 0, x149.B⟩ : S_ref16_Body)).length) c144, .slice a72 v66.Early.length c73, .bool v66.Owes] rfl (by simp only [List.length_set]) ?_
                  refine WO.done ?_
                  refine At.seq_wc ?_
                  refine WC.seq (fun a w => ∃ (v163 : Int), ref16_Link_Tick_vvvvvvvvoov_k9 v59 v65 v66 v142 x149 v163 = some r5 ∧ Ctx 167 [(0, .pointer (some ⟨b_0, 0, none⟩)), (3, .slice a60 v59.length c61), (4, .int .i64 v65)] a ∧ Sat F (p159 :: p62 :: p74 :: [(b_0, row [.int .i64 v66.Window, .int .i64 v66.Span, .int .i64 v66.Room, .int .i64 v66.Epoch, .int .i64 v66.Next, .int .i64 v66.Acked, .int .i64 v163, .int .i64 v66.Got, .slice (some ⟨b151, 0, none⟩) ((List.set v142 (Int.toNat v65) (⟨x149.Seq, 0, x149.B⟩ : S_ref16_Body)).length) c144, .slice a72 v66.Early.length c73, .bool v66.Owes] 54)] :: Φ) w) ?_ ?_
                  · refine WC.then ?_
                    refine WC.draw (Sat F (p159 :: p62 :: p74 :: [(b_0, row [.int .i64 v66.Window, .int .i64 v66.Span, .int .i64 v66.Room, .int .i64 v66.Epoch, .int .i64 v66.Next, .int .i64 v66.Acked, .int .i64 v66.Sent, .int .i64 v66.Got, .slice (some ⟨b151, 0, none⟩) ((List.set v142 (Int.toNat v65) (⟨x149.Seq, 0, x149.B⟩ : S_ref16_Body)).length) c144, .slice a72 v66.Early.length c73, .bool v66.Owes] 54)] :: Φ)) (fun _ h => (h.arrange 0 4 [] [0, 1, 2, 3] (by decide))) [(0, true), (1, true), (2, true), (3, true), (4, true), (5, true), (6, true), (7, true), (8, true), (9, true), (10, true), (11, true), (12, true)] mixed (by kernel_rfl) rfl (by kernel_rfl) ?_
                    refine WO.move rfl rfl rfl rfl ?_
                    refine WO.nilCheck rfl rfl rfl rfl ?_
                    refine WO.fieldAddr 8 rfl rfl rfl rfl fl_54_8 ?_
                    refine WO.loadY 3 rfl rfl rfl rfl sc_51 rfl rfl ?_
                    refine WO.move rfl rfl rfl rfl ?_
                    obtain ⟨x192, hx193, hr⟩ := bind_some' hr
                    refine WO.indexQ ho160 hx193 rfl rfl rfl rfl rfl rfl Try.underlying51 sz_81 (fun b194 cs195 hb196 h197 hq198 => ?_)
                    obtain rfl : b151 = b194 := by cases hb196; rfl
                    obtain ⟨a199, c200, rfl, h201⟩ := h197
                    refine WO.fieldAddr 0 rfl rfl rfl rfl fl_81_0 ?_
                    refine WO.loadQY 0 0 hq198 rfl rfl rfl rfl rfl rfl sc_3 rfl ?_
                    refine WO.move rfl rfl rfl rfl ?_
                    refine WO.nilCheck rfl rfl rfl rfl ?_
                    refine WO.fieldAddr 6 rfl rfl rfl rfl fl_54_6 ?_
                    refine WO.loadY 3 rfl rfl rfl rfl sc_3 rfl rfl ?_
                    refine WO.bin rfl rfl rfl rfl rfl rfl ?_
                    refine WO.done ?_
                    refine At.seq_wc ?_
                    refine WC.cond rfl (fun hb202 => ?_) (fun hb202 => ?_)
                    · have hr := cond_t hb202 hr
                      refine WC.region [(0, true), (1, true), (2, true), (3, true), (4, false), (5, true), (6, true), (7, true), (8, false), (9, true), (10, true), (11, false)] rfl ?_
                      refine WO.move rfl rfl rfl rfl ?_
                      refine WO.move rfl rfl rfl rfl ?_
                      refine WO.nilCheck rfl rfl rfl rfl ?_
                      refine WO.fieldAddr 8 rfl rfl rfl rfl fl_54_8 ?_
                      refine WO.load 3 rfl rfl rfl rfl sc_51 rfl rfl ?_
                      refine WO.move rfl rfl rfl rfl ?_
                      obtain ⟨x203, hx204, hr⟩ := bind_some' hr
                      refine WO.indexQ ho160 hx204 rfl rfl rfl rfl rfl rfl Try.underlying51 sz_81 (fun b205 cs206 hb207 h208 hq209 => ?_)
                      obtain rfl : b151 = b205 := by cases hb207; rfl
                      obtain ⟨a210, c211, rfl, h212⟩ := h208
                      refine WO.fieldAddr 0 rfl rfl rfl rfl fl_81_0 ?_
                      refine WO.loadQ 0 0 hq209 rfl rfl rfl rfl rfl rfl sc_3 rfl ?_
                      refine WO.nilCheck rfl rfl rfl rfl ?_
                      refine WO.fieldAddr 6 rfl rfl rfl rfl fl_54_6 ?_
                      refine WO.store 3 rfl rfl rfl rfl sz_3 rfl rfl rfl (fun _ _ => trivial) ?_
                      refine WO.done ?_
                      refine At.seq_at ?_
                      exact fun a w hc hs => ⟨x203.Seq, hr, (hc.keep (hc.keep (hc.keep hc.nil (t := 4) rfl) (t := 3) rfl) (t := 0) rfl), hs⟩
                    · have hr := cond_f hb202 hr
                      refine WC.skip ?_
                      refine At.seq_at ?_
                      exact fun a w hc hs => ⟨v66.Sent, hr, (hc.keep (hc.keep (hc.keep hc.nil (t := 4) rfl) (t := 3) rfl) (t := 0) rfl), hs⟩
                  · rintro a w ⟨v163, hr, hc, hs⟩
                    refine WC.use hc hs ?_
                    clear hc hs
                    unfold ref16_Link_Tick_vvvvvvvvoov_k9 at hr
                    refine WC.drawA (Sat F ([(b_0, row [.int .i64 v66.Window, .int .i64 v66.Span, .int .i64 v66.Room, .int .i64 v66.Epoch, .int .i64 v66.Next, .int .i64 v66.Acked, .int .i64 v163, .int .i64 v66.Got, .slice (some ⟨b151, 0, none⟩) ((List.set v142 (Int.toNat v65) (⟨x149.Seq, 0, x149.B⟩ : S_ref16_Body)).length) c144, .slice a72 v66.Early.length c73, .bool v66.Owes] 54)] :: Φ)) (fun _ h => (h.arrange 0 4 [] [3] (by decide))) mixed rfl ?_
                    refine WA.lin (fuel := 6) [(0, true), (1, true), (2, true), (3, true), (4, true), (5, true), (6, true), (7, true), (8, true), (9, true), (10, true), (11, true), (13, true), (14, true), (15, true), (16, true), (17, true), (18, true), (19, true), (20, true), (21, true), (22, true), (23, true)] (by kernel_rfl) (by kernel_rfl) ?_
                    refine WO.move rfl rfl rfl rfl ?_
                    refine WO.move rfl rfl rfl rfl ?_
                    refine WO.nilCheck rfl rfl rfl rfl ?_
                    refine WO.fieldAddr 3 rfl rfl rfl rfl fl_54_3 ?_
                    refine WO.loadY 0 rfl rfl rfl rfl sc_3 rfl rfl ?_
                    refine WO.move rfl rfl rfl rfl ?_
                    refine WO.nilCheck rfl rfl rfl rfl ?_
                    refine WO.fieldAddr 8 rfl rfl rfl rfl fl_54_8 ?_
                    refine WO.loadY 0 rfl rfl rfl rfl sc_51 rfl rfl ?_
                    refine WO.move rfl rfl rfl rfl ?_
                    obtain ⟨x164, hx165, hr⟩ := bind_some' hr
                    refine WO.indexQ ho160 hx165 rfl rfl rfl rfl rfl rfl Try.underlying51 sz_81 (fun b166 cs167 hb168 h169 hq170 => ?_)
                    obtain rfl : b151 = b166 := by cases hb168; rfl
                    obtain ⟨a171, c172, rfl, h173⟩ := h169
                    refine WO.fieldAddr 0 rfl rfl rfl rfl fl_81_0 ?_
                    refine WO.move rfl rfl rfl rfl ?_
                    refine WO.nilCheck rfl rfl rfl rfl ?_
                    refine WO.fieldAddr 7 rfl rfl rfl rfl fl_54_7 ?_
                    refine WO.loadY 0 rfl rfl rfl rfl sc_3 rfl rfl ?_
                    refine WO.move rfl rfl rfl rfl ?_
                    refine WO.nilCheck rfl rfl rfl rfl ?_
                    refine WO.fieldAddr 8 rfl rfl rfl rfl fl_54_8 ?_
                    refine WO.loadY 0 rfl rfl rfl rfl sc_51 rfl rfl ?_
                    refine WO.move rfl rfl rfl rfl ?_
                    obtain ⟨x174, hx175, hr⟩ := bind_some' hr
                    refine WO.indexQ ho160 hx175 rfl rfl rfl rfl rfl rfl Try.underlying51 sz_81 (fun b176 cs177 hb178 h179 hq180 => ?_)
                    obtain rfl : b151 = b176 := by cases hb178; rfl
                    obtain ⟨a181, c182, rfl, h183⟩ := h179
                    refine WO.fieldAddr 2 rfl rfl rfl rfl fl_81_2 ?_
                    refine WO.done ?_
                    refine WA.of ?_
                    refine WA.two (fuel := 5) 12 24 (by kernel_rfl) ?_ ?_
                    · refine WO.loadQ 0 0 hq170 rfl rfl rfl rfl rfl rfl sc_3 rfl ?_
                      refine WO.done ?_
                      refine WA.of ?_
                      refine WA.lin (fuel := 0) [(24, false), (25, true), (26, false), (27, false), (28, true)] (by kernel_rfl) (by kernel_rfl) ?_
                      refine WO.loadQ 0 2 hq180 rfl rfl rfl rfl rfl rfl sc_38 rfl ?_
                      refine WO.build (vs := [.tmp 118, .tmp 126, .tmp 130, .tmp 138]) [0, 1, 2, 3] (.agg (List.toArray [.int .i64 v66.Epoch, .int .i64 x164.Seq, .int .i64 v66.Got, .slice a181 x174.B.length c182])) rfl rfl rfl rfl rfl (fun _ => by kernel_rfl) ?_
                      refine WO.buildSl (e := 46) (vs := [.tmp 139]) [0] [.int .i64 v66.Epoch, .int .i64 x164.Seq, .int .i64 v66.Got, .slice a181 x174.B.length c182] rfl rfl rfl rfl rfl (fun _ => by kernel_rfl) (fun _ _ h => (h.arrange 0 5 [] [4] (by decide))) (fun b184 => ?_)
                      obtain ⟨x186, hx187, hr⟩ := bind_some' hr
                      refine WO.append 2 ho63 rfl (SrcL.ofRow 0 Try.underlying29 [[.int .i64 v66.Epoch, .int .i64 x164.Seq, .int .i64 v66.Got, .slice a181 x174.B.length c182]] rfl rfl rfl (Rs.cons (x := (⟨v66.Epoch, x164.Seq, v66.Got, x174.B⟩ : S_api_Seg)) (cs := [.int .i64 v66.Epoch, .int .i64 x164.Seq, .int .i64 v66.Got, .slice a181 x174.B.length c182]) rfl ⟨_, _, rfl, h183⟩ rfl Rs.nil)) hx187 rfl rfl rfl rfl rfl rfl Try.underlying29 el_46 (fun _ _ h => (h.arrange 0 5 [] [4] (by decide))) (fun a188 c189 p190 ho191 => ?_)
                      refine WO.assign rfl rfl rfl rfl ?_
                      refine WO.done ?_
                      refine WA.of ?_
                      refine WA.done (by kernel_rfl) ?_
                      refine At.block_normal ?_
                      refine At.seq_at ?_
                      exact fun a w hc hs => ⟨x186, (⟨v66.Window, v66.Span, v66.Room, v66.Epoch, v66.Next, v66.Acked, v163, v66.Got, (List.set v142 (Int.toNat v65) (⟨x149.Seq, 0, x149.B⟩ : S_ref16_Body)), v66.Early, v66.Owes⟩ : S_ref16_Link), a188, c189, p190, (some ⟨b151, 0, none⟩), c144, p159, a72, c73, p74, hr, (hc.keep (hc.keep (hc.keep hc.nil (t := 4) rfl) (t := 3) rfl) (t := 0) rfl), (hs.arrange 0 5 [] [2, 1, 3, 4] (by decide)), ho191, ho160, ho75⟩
                    · refine WO.loadQ 0 2 hq180 rfl rfl rfl rfl rfl rfl sc_38 rfl ?_
                      refine WO.done ?_
                      refine WA.of ?_
                      refine WA.lin (fuel := 0) [(12, false), (25, true), (26, false), (27, false), (28, true)] (by kernel_rfl) (by kernel_rfl) ?_
                      refine WO.loadQ 0 0 hq170 rfl rfl rfl rfl rfl rfl sc_3 rfl ?_
                      refine WO.build (vs := [.tmp 118, .tmp 126, .tmp 130, .tmp 138]) [0, 1, 2, 3] (.agg (List.toArray [.int .i64 v66.Epoch, .int .i64 x164.Seq, .int .i64 v66.Got, .slice a181 x174.B.length c182])) rfl rfl rfl rfl rfl (fun _ => by kernel_rfl) ?_
                      refine WO.buildSl (e := 46) (vs := [.tmp 139]) [0] [.int .i64 v66.Epoch, .int .i64 x164.Seq, .int .i64 v66.Got, .slice a181 x174.B.length c182] rfl rfl rfl rfl rfl (fun _ => by kernel_rfl) (fun _ _ h => (h.arrange 0 5 [] [4] (by decide))) (fun b184 => ?_)
                      obtain ⟨x186, hx187, hr⟩ := bind_some' hr
                      refine WO.append 2 ho63 rfl (SrcL.ofRow 0 Try.underlying29 [[.int .i64 v66.Epoch, .int .i64 x164.Seq, .int .i64 v66.Got, .slice a181 x174.B.length c182]] rfl rfl rfl (Rs.cons (x := (⟨v66.Epoch, x164.Seq, v66.Got, x174.B⟩ : S_api_Seg)) (cs := [.int .i64 v66.Epoch, .int .i64 x164.Seq, .int .i64 v66.Got, .slice a181 x174.B.length c182]) rfl ⟨_, _, rfl, h183⟩ rfl Rs.nil)) hx187 rfl rfl rfl rfl rfl rfl Try.underlying29 el_46 (fun _ _ h => (h.arrange 0 5 [] [4] (by decide))) (fun a188 c189 p190 ho191 => ?_)
                      refine WO.assign rfl rfl rfl rfl ?_
                      refine WO.done ?_
                      refine WA.of ?_
                      refine WA.done (by kernel_rfl) ?_
                      refine At.block_normal ?_
                      refine At.seq_at ?_
                      exact fun a w hc hs => ⟨x186, (⟨v66.Window, v66.Span, v66.Room, v66.Epoch, v66.Next, v66.Acked, v163, v66.Got, (List.set v142 (Int.toNat v65) (⟨x149.Seq, 0, x149.B⟩ : S_ref16_Body)), v66.Early, v66.Owes⟩ : S_ref16_Link), a188, c189, p190, (some ⟨b151, 0, none⟩), c144, p159, a72, c73, p74, hr, (hc.keep (hc.keep (hc.keep hc.nil (t := 4) rfl) (t := 3) rfl) (t := 0) rfl), (hs.arrange 0 5 [] [2, 1, 3, 4] (by decide)), ho191, ho160, ho75⟩
          · rintro a w ⟨v116, v122, a117, c118, p119, a123, c124, p125, a128, c129, p130, hr, hc, hs, ho120, ho126, ho131⟩
            refine WC.use hc hs ?_
            clear hc hs
            unfold ref16_Link_Tick_vvvvvvvvoov_k6 at hr
            refine WC.region [(0, true), (1, true), (2, true)] rfl ?_
            refine WO.move rfl rfl rfl rfl ?_
            refine WO.bin rfl rfl rfl rfl rfl rfl ?_
            refine WO.assign rfl rfl rfl rfl ?_
            refine WO.done ?_
            refine At.round_next hr ?_
            exact fun a w hc hs => ⟨a117, c118, p119, a123, c124, p125, a128, c129, p130, (hc.keep (hc.keep (hc.keep hc.nil (t := 4) rfl) (t := 3) rfl) (t := 0) rfl), hs, ho120, ho126, ho131⟩
        · have hr := cond_f hb114 hr
          refine WC.exit ?_
          refine At.seq_exit ?_
          refine At.round_exit hr (fun hy => ?_)
          refine At.exit_block ?_
          refine At.seq_at ?_
          exact fun a w hc hs => ⟨v59, v66, a60, c61, p62, a67, c68, p69, a72, c73, p74, hy, (hc.keep (hc.keep hc.nil (t := 3) rfl) (t := 0) rfl), hs, ho63, ho70, ho75⟩
    · rintro a w ⟨v97, v103, a98, c99, p100, a104, c105, p106, a109, c110, p111, rfl, hc, hs, ho101, ho107, ho112⟩
      refine At.use hc hs ?_
      clear hc hs
      (try dsimp only at hk5)
      have hr := hk5
      refine At.seq_at ?_
      exact fun a w hc hs => ⟨v97, v103, a98, c99, p100, a104, c105, p106, a109, c110, p111, hr, (hc.keep (hc.keep hc.nil (t := 3) rfl) (t := 0) rfl), hs, ho101, ho107, ho112⟩
  · rintro a w ⟨v2, v8, a3, c4, p5, a9, c10, p11, a14, c15, p16, hr, hc, hs, ho6, ho12, ho17⟩
    refine WC.use hc hs ?_
    clear hc hs
    unfold ref16_Link_Tick_vvvvvvvvoov_k1 at hr
    refine WC.seq (fun a w => ∃ (v20 : List S_api_Seg) (a21 : Option Addr) (c22 : Nat) (p23 : List Chunk), ref16_Link_Tick_vvvvvvvvoov_k2 v8 v20 = some r ∧ Ctx 167 [(0, .pointer (some ⟨b_0, 0, none⟩)), (3, .slice a21 v20.length c22)] a ∧ Sat F (p23 :: p11 :: p16 :: [(b_0, row [.int .i64 v8.Window, .int .i64 v8.Span, .int .i64 v8.Room, .int .i64 v8.Epoch, .int .i64 v8.Next, .int .i64 v8.Acked, .int .i64 v8.Sent, .int .i64 v8.Got, .slice a9 v8.Out.length c10, .slice a14 v8.Early.length c15, .bool v8.Owes] 54)] :: Φ) w ∧ OwnL 4 R_api_Seg F 46 a21 c22 v20 p23) ?_ ?_
    · refine WC.seq (fun a w => ∃ (v27 : Bool), ref16_Link_Tick_vvvvvvvvoov_k3 v2 v8 v27 = some r ∧ Ctx 167 [(0, .pointer (some ⟨b_0, 0, none⟩)), (3, .slice a3 v2.length c4), (150, .bool v27)] a ∧ Sat F (p5 :: p11 :: p16 :: [(b_0, row [.int .i64 v8.Window, .int .i64 v8.Span, .int .i64 v8.Room, .int .i64 v8.Epoch, .int .i64 v8.Next, .int .i64 v8.Acked, .int .i64 v8.Sent, .int .i64 v8.Got, .slice a9 v8.Out.length c10, .slice a14 v8.Early.length c15, .bool v8.Owes] 54)] :: Φ) w) ?_ ?_
      · refine WC.region [(0, true), (1, true), (2, true), (3, true), (4, true), (5, true), (6, true), (7, false), (8, true)] rfl ?_
        refine WO.move rfl rfl rfl rfl ?_
        refine WO.len rfl rfl rfl rfl Try.underlying29 ?_
        refine WO.bin rfl rfl rfl rfl rfl rfl ?_
        refine WO.move rfl rfl rfl rfl ?_
        refine WO.split (t := 145) rfl (fun hg37 => ?_) (fun hg37 => ?_)
        · have hr := cond_t hg37 hr
          refine WO.move rfl rfl rfl rfl ?_
          refine WO.nilCheck rfl rfl rfl rfl ?_
          refine WO.fieldAddr 10 rfl rfl rfl rfl fl_54_10 ?_
          refine WO.load 3 rfl rfl rfl rfl sc_4 rfl rfl ?_
          refine WO.pickT rfl rfl rfl rfl rfl ?_
          refine WO.done ?_
          refine At.seq_at ?_
          exact fun a w hc hs => ⟨v8.Owes, hr, (hc.keep (hc.keep (hc.keep hc.nil (t := 150) rfl) (t := 3) rfl) (t := 0) rfl), hs⟩
        · have hr := cond_f hg37 hr
          refine WO.skip rfl rfl rfl rfl ?_
          refine WO.skip rfl rfl rfl rfl ?_
          refine WO.skip rfl rfl rfl rfl ?_
          refine WO.skipF rfl rfl rfl rfl ?_
          refine WO.pickF rfl rfl rfl rfl rfl ?_
          refine WO.done ?_
          refine At.seq_at ?_
          exact fun a w hc hs => ⟨false, hr, (hc.keep (hc.keep (hc.keep hc.nil (t := 150) rfl) (t := 3) rfl) (t := 0) rfl), hs⟩
      · rintro a w ⟨v27, hr, hc, hs⟩
        refine WC.use hc hs ?_
        clear hc hs
        unfold ref16_Link_Tick_vvvvvvvvoov_k3 at hr
        refine WC.cond rfl (fun hb28 => ?_) (fun hb28 => ?_)
        · have hr := cond_t hb28 hr
          refine WC.draw (Sat F ([(b_0, row [.int .i64 v8.Window, .int .i64 v8.Span, .int .i64 v8.Room, .int .i64 v8.Epoch, .int .i64 v8.Next, .int .i64 v8.Acked, .int .i64 v8.Sent, .int .i64 v8.Got, .slice a9 v8.Out.length c10, .slice a14 v8.Early.length c15, .bool v8.Owes] 54)] :: Φ)) (fun _ h => (h.arrange 0 4 [] [3] (by decide))) [(0, true), (1, true), (2, true), (3, true), (4, true), (5, true), (6, true), (7, true), (8, true), (9, true), (10, false), (11, false), (12, true)] mixed (by kernel_rfl) rfl (by kernel_rfl) ?_
          refine WO.move rfl rfl rfl rfl ?_
          refine WO.move rfl rfl rfl rfl ?_
          refine WO.nilCheck rfl rfl rfl rfl ?_
          refine WO.fieldAddr 3 rfl rfl rfl rfl fl_54_3 ?_
          refine WO.loadY 0 rfl rfl rfl rfl sc_3 rfl rfl ?_
          refine WO.move rfl rfl rfl rfl ?_
          refine WO.nilCheck rfl rfl rfl rfl ?_
          refine WO.fieldAddr 7 rfl rfl rfl rfl fl_54_7 ?_
          refine WO.loadY 0 rfl rfl rfl rfl sc_3 rfl rfl ?_
          refine WO.build (vs := [.tmp 155, .tmp 159]) [0, 2] (.agg (List.toArray [.int .i64 v8.Epoch, .int .i64 0, .int .i64 v8.Got, .slice none 0 0])) rfl rfl rfl rfl rfl (fun _ => by kernel_rfl) ?_
          refine WO.buildSl (e := 46) (vs := [.tmp 160]) [0] [.int .i64 v8.Epoch, .int .i64 0, .int .i64 v8.Got, .slice none 0 0] rfl rfl rfl rfl rfl (fun _ => by kernel_rfl) (fun _ _ h => (h.arrange 0 5 [] [4] (by decide))) (fun b29 => ?_)
          obtain ⟨x31, hx32, hr⟩ := bind_some' hr
          refine WO.append 1 ho6 rfl (SrcL.ofRow 0 Try.underlying29 [[.int .i64 v8.Epoch, .int .i64 0, .int .i64 v8.Got, .slice none 0 0]] rfl rfl rfl (Rs.cons (x := (⟨v8.Epoch, 0, v8.Got, []⟩ : S_api_Seg)) (cs := [.int .i64 v8.Epoch, .int .i64 0, .int .i64 v8.Got, .slice none 0 0]) rfl ⟨_, _, rfl, RdL.nil⟩ rfl Rs.nil)) hx32 rfl rfl rfl rfl rfl rfl Try.underlying29 el_46 (fun _ _ h => (h.arrange 0 5 [] [4] (by decide))) (fun a33 c34 p35 ho36 => ?_)
          refine WO.assign rfl rfl rfl rfl ?_
          refine WO.done ?_
          refine At.seq_at ?_
          exact fun a w hc hs => ⟨x31, a33, c34, p35, hr, (hc.keep (hc.keep hc.nil (t := 3) rfl) (t := 0) rfl), (hs.arrange 0 5 [] [1, 2, 3, 4] (by decide)), ho36⟩
        · have hr := cond_f hb28 hr
          refine WC.skip ?_
          refine At.seq_at ?_
          exact fun a w hc hs => ⟨v2, a3, c4, p5, hr, (hc.keep (hc.keep hc.nil (t := 3) rfl) (t := 0) rfl), hs, ho6⟩
    · rintro a w ⟨v20, a21, c22, p23, hr, hc, hs, ho24⟩
      refine WC.use hc hs ?_
      clear hc hs
      unfold ref16_Link_Tick_vvvvvvvvoov_k2 at hr
      refine WC.then ?_
      refine WC.region [(0, true), (1, true), (2, true), (3, false)] rfl ?_
      refine WO.move rfl rfl rfl rfl ?_
      refine WO.nilCheck rfl rfl rfl rfl ?_
      refine WO.fieldAddr 10 rfl rfl rfl rfl fl_54_10 ?_
      refine WO.store 3 rfl rfl rfl rfl sz_4 rfl rfl rfl (fun _ _ => trivial) ?_
      refine WO.done ?_
      refine At.seq_wc ?_
      refine WC.then ?_
      refine WC.region [(0, true), (1, true)] rfl ?_
      refine WO.move rfl rfl rfl rfl ?_
      refine WO.assign rfl rfl rfl rfl ?_
      refine WO.done ?_
      refine At.seq_wc ?_
      refine WC.ret ?_
      obtain rfl := Option.some.inj hr
      exact At.ret (fun a w hc hs => (resVs_cons (hc.res rfl) resVs_nil)) (fun w hs => ⟨_, _, _, _, _, _, _, _, _, rfl, (hs.arrange 0 4 [] [0, 3, 1, 2] (by decide)), ho24, ho12, ho17⟩)
/-! peloton/pelotonref16.Same -/
def ref16_Same_k1 (v12 : Bool) : Option Bool := some v12
def ref16_Same (p0 : S_api_Seg) (p1 : S_api_Seg) : Option Bool := cond (p0.Epoch == p1.Epoch) (cond (p0.Seq == p1.Seq) (cond (p0.Ack == p1.Ack) (ref16_Same_k1 ((strOfNums p0.Body) == (strOfNums p1.Body))) (ref16_Same_k1 false)) (ref16_Same_k1 false)) (ref16_Same_k1 false)
theorem ref16_Same_ok {F : Mem} {χ : List Chunk} {p0 : S_api_Seg} {p1 : S_api_Seg} {cs_0 : List Value} (h_0 : R_api_Seg (Mem.add F χ) cs_0 p0) {cs_1 : List Value} (h_1 : R_api_Seg (Mem.add F χ) cs_1 p1) {r : Bool} (hr : ref16_Same p0 p1 = some r) (Φ : List (List Chunk)) :
    CallsRet Try.prog 29 (List.toArray [.agg cs_0.toArray, .agg cs_1.toArray]) (Mem.add F χ) Φ (fun v w => v = .bool r ∧ Sat (Mem.add F χ) (Φ) w) := by
  obtain ⟨a1, c2, rfl, h3⟩ := h_0
  obtain ⟨a4, c5, rfl, h6⟩ := h_1
  refine CallsRet.enter (rs := [.tmp 4]) Try.func29 rfl rfl rfl rfl ?_
  unfold ref16_Same at hr
  refine WC.then ?_
  refine WC.region [(0, false), (1, false), (2, true)] rfl ?_
  refine WO.box rfl rfl rfl rfl rfl (fun _ _ _ => trivial) (fun b7 => ?_)
  refine WO.box rfl rfl rfl rfl rfl (fun _ _ _ => trivial) (fun b9 => ?_)
  refine WO.assign rfl rfl rfl rfl ?_
  refine WO.done ?_
  refine At.seq_wc ?_
  refine WC.seq (fun a w => ∃ (v12 : Bool), ref16_Same_k1 v12 = some r ∧ Ctx 33 [(4, .bool v12)] a ∧ Sat (Mem.add F χ) ([(b9, row [.int .i64 p1.Epoch, .int .i64 p1.Seq, .int .i64 p1.Ack, .slice a4 p1.Body.length c5] 46)] :: [(b7, row [.int .i64 p0.Epoch, .int .i64 p0.Seq, .int .i64 p0.Ack, .slice a1 p0.Body.length c2] 46)] :: Φ) w) ?_ ?_
  · refine WC.region [(0, true), (1, false), (2, true), (3, false), (4, true), (5, true), (6, true), (7, false), (8, true), (9, false), (10, true), (11, true), (12, true), (13, true), (14, false), (15, true), (16, false), (17, true), (18, true), (19, true), (20, true), (21, false), (22, false), (23, true), (24, false), (25, false), (26, true), (27, true), (28, true)] rfl ?_
    refine WO.fieldAddr 0 rfl rfl rfl rfl fl_46_0 ?_
    refine WO.load 1 rfl rfl rfl rfl sc_3 rfl rfl ?_
    refine WO.fieldAddr 0 rfl rfl rfl rfl fl_46_0 ?_
    refine WO.load 0 rfl rfl rfl rfl sc_3 rfl rfl ?_
    refine WO.bin rfl rfl rfl rfl rfl rfl ?_
    refine WO.move rfl rfl rfl rfl ?_
    refine WO.split (t := 10) rfl (fun hg13 => ?_) (fun hg13 => ?_)
    · have hr := cond_t hg13 hr
      refine WO.fieldAddr 1 rfl rfl rfl rfl fl_46_1 ?_
      refine WO.load 1 rfl rfl rfl rfl sc_3 rfl rfl ?_
      refine WO.fieldAddr 1 rfl rfl rfl rfl fl_46_1 ?_
      refine WO.load 0 rfl rfl rfl rfl sc_3 rfl rfl ?_
      refine WO.bin rfl rfl rfl rfl rfl rfl ?_
      refine WO.pickT rfl rfl rfl rfl rfl ?_
      refine WO.move rfl rfl rfl rfl ?_
      refine WO.split (t := 17) rfl (fun hg14 => ?_) (fun hg14 => ?_)
      · have hr := cond_t hg14 hr
        refine WO.fieldAddr 2 rfl rfl rfl rfl fl_46_2 ?_
        refine WO.load 1 rfl rfl rfl rfl sc_3 rfl rfl ?_
        refine WO.fieldAddr 2 rfl rfl rfl rfl fl_46_2 ?_
        refine WO.load 0 rfl rfl rfl rfl sc_3 rfl rfl ?_
        refine WO.bin rfl rfl rfl rfl rfl rfl ?_
        refine WO.pickT rfl rfl rfl rfl rfl ?_
        refine WO.move rfl rfl rfl rfl ?_
        refine WO.split (t := 24) rfl (fun hg15 => ?_) (fun hg15 => ?_)
        · have hr := cond_t hg15 hr
          refine WO.fieldAddr 3 rfl rfl rfl rfl fl_46_3 ?_
          refine WO.load 1 rfl rfl rfl rfl sc_38 rfl rfl ?_
          refine WO.str (xs := p0.Body) h3 (Mem.le_refl _) rfl rfl rfl rfl rfl Try.underlying38 Try.underlying5 Try.underlying9 ?_
          refine WO.fieldAddr 3 rfl rfl rfl rfl fl_46_3 ?_
          refine WO.load 0 rfl rfl rfl rfl sc_38 rfl rfl ?_
          refine WO.str (xs := p1.Body) h6 (Mem.le_refl _) rfl rfl rfl rfl rfl Try.underlying38 Try.underlying5 Try.underlying9 ?_
          refine WO.eqStr rfl rfl rfl rfl rfl Try.underlying9 ?_
          refine WO.pickT rfl rfl rfl rfl rfl ?_
          refine WO.assign rfl rfl rfl rfl ?_
          refine WO.done ?_
          refine At.seq_at ?_
          exact fun a w hc hs => ⟨((strOfNums p0.Body) == (strOfNums p1.Body)), hr, (hc.keep hc.nil (t := 4) rfl), hs⟩
        · have hr := cond_f hg15 hr
          refine WO.skip rfl rfl rfl rfl ?_
          refine WO.skipF rfl rfl rfl rfl ?_
          refine WO.skipF rfl rfl rfl rfl ?_
          refine WO.skip rfl rfl rfl rfl ?_
          refine WO.skipF rfl rfl rfl rfl ?_
          refine WO.skipF rfl rfl rfl rfl ?_
          refine WO.skip rfl rfl rfl rfl ?_
          refine WO.pickF rfl rfl rfl rfl rfl ?_
          refine WO.assign rfl rfl rfl rfl ?_
          refine WO.done ?_
          refine At.seq_at ?_
          exact fun a w hc hs => ⟨false, hr, (hc.keep hc.nil (t := 4) rfl), hs⟩
      · have hr := cond_f hg14 hr
        refine WO.skip rfl rfl rfl rfl ?_
        refine WO.skipF rfl rfl rfl rfl ?_
        refine WO.skip rfl rfl rfl rfl ?_
        refine WO.skipF rfl rfl rfl rfl ?_
        refine WO.skip rfl rfl rfl rfl ?_
        refine WO.pickF rfl rfl rfl rfl rfl ?_
        refine WO.move rfl rfl rfl rfl ?_
        refine WO.skip rfl rfl rfl rfl ?_
        refine WO.skipF rfl rfl rfl rfl ?_
        refine WO.skipF rfl rfl rfl rfl ?_
        refine WO.skip rfl rfl rfl rfl ?_
        refine WO.skipF rfl rfl rfl rfl ?_
        refine WO.skipF rfl rfl rfl rfl ?_
        refine WO.skip rfl rfl rfl rfl ?_
        refine WO.pickF rfl rfl rfl rfl rfl ?_
        refine WO.assign rfl rfl rfl rfl ?_
        refine WO.done ?_
        refine At.seq_at ?_
        exact fun a w hc hs => ⟨false, hr, (hc.keep hc.nil (t := 4) rfl), hs⟩
    · have hr := cond_f hg13 hr
      refine WO.skip rfl rfl rfl rfl ?_
      refine WO.skipF rfl rfl rfl rfl ?_
      refine WO.skip rfl rfl rfl rfl ?_
      refine WO.skipF rfl rfl rfl rfl ?_
      refine WO.skip rfl rfl rfl rfl ?_
      refine WO.pickF rfl rfl rfl rfl rfl ?_
      refine WO.move rfl rfl rfl rfl ?_
      refine WO.skip rfl rfl rfl rfl ?_
      refine WO.skipF rfl rfl rfl rfl ?_
      refine WO.skip rfl rfl rfl rfl ?_
      refine WO.skipF rfl rfl rfl rfl ?_
      refine WO.skip rfl rfl rfl rfl ?_
      refine WO.pickF rfl rfl rfl rfl rfl ?_
      refine WO.move rfl rfl rfl rfl ?_
      refine WO.skip rfl rfl rfl rfl ?_
      refine WO.skipF rfl rfl rfl rfl ?_
      refine WO.skipF rfl rfl rfl rfl ?_
      refine WO.skip rfl rfl rfl rfl ?_
      refine WO.skipF rfl rfl rfl rfl ?_
      refine WO.skipF rfl rfl rfl rfl ?_
      refine WO.skip rfl rfl rfl rfl ?_
      refine WO.pickF rfl rfl rfl rfl rfl ?_
      refine WO.assign rfl rfl rfl rfl ?_
      refine WO.done ?_
      refine At.seq_at ?_
      exact fun a w hc hs => ⟨false, hr, (hc.keep hc.nil (t := 4) rfl), hs⟩
  · rintro a w ⟨v12, hr, hc, hs⟩
    refine WC.use hc hs ?_
    clear hc hs
    unfold ref16_Same_k1 at hr
    refine WC.ret ?_
    obtain rfl := Option.some.inj hr
    exact At.ret (fun a w hc hs => (resVs_cons (hc.res rfl) resVs_nil)) (fun w hs => ⟨rfl, (hs.arrange 1 2 [0] [] (by decide))⟩)
/-! peloton/pelotonlaw16.segs -/
def law16_segs_k1  : Option Bool := some true
def law16_segs_b2 (p0 : List S_api_Seg) (p1 : List S_api_Seg) (v7 : Int) : Option (Int ⊕ (Lp Bool Unit)) := cond (decide (v7 < (p0.length : Int))) ((getI p0 v7).bind fun x12 => (getI p1 v7).bind fun x20 => (ref16_Same x12 x20).bind fun x28 => cond (!x28) (some (.inr (.ret false))) (some (.inl (IntKind.wrap .i64 (v7 + 1))))) (some (.inr (.brk ())))
def law16_segs (p0 : List S_api_Seg) (p1 : List S_api_Seg) : Option Bool := cond ((p0.length : Int) != (p1.length : Int)) (some false) ((loopO (fun s => law16_segs_b2 p0 p1 s) 0).bind (fun | .ret r => some r | .brk _ => law16_segs_k1 ))
theorem law16_segs_ok {F : Mem} {χ : List Chunk} {p0 : List S_api_Seg} {p1 : List S_api_Seg} {a_0 : Option Addr} {c_0 : Nat} (h_0 : RdL 4 R_api_Seg (Mem.add F χ) a_0 c_0 p0) {a_1 : Option Addr} {c_1 : Nat} (h_1 : RdL 4 R_api_Seg (Mem.add F χ) a_1 c_1 p1) {r : Bool} (hr : law16_segs p0 p1 = some r) (Φ : List (List Chunk)) :
    CallsRet Try.prog 15 (List.toArray [.slice a_0 p0.length c_0, .slice a_1 p1.length c_1]) (Mem.add F χ) Φ (fun v w => v = .bool r ∧ Sat (Mem.add F χ) (Φ) w) := by
  refine CallsRet.enter (rs := [.tmp 4]) Try.func15 rfl rfl rfl rfl ?_
  unfold law16_segs at hr
  refine WC.then ?_
  refine WC.region [(0, true)] rfl ?_
  refine WO.assign rfl rfl rfl rfl ?_
  refine WO.done ?_
  refine At.seq_wc ?_
  refine WC.then ?_
  refine WC.then ?_
  refine WC.region [(0, true), (1, true), (2, true), (3, true), (4, true)] rfl ?_
  refine WO.move rfl rfl rfl rfl ?_
  refine WO.len rfl rfl rfl rfl Try.underlying29 ?_
  refine WO.move rfl rfl rfl rfl ?_
  refine WO.len rfl rfl rfl rfl Try.underlying29 ?_
  refine WO.bin rfl rfl rfl rfl rfl rfl ?_
  refine WO.done ?_
  refine At.seq_wc ?_
  refine WC.cond rfl (fun hb1 => ?_) (fun hb1 => ?_)
  · have hr := cond_t hb1 hr
    refine WC.then ?_
    refine WC.region [(0, true)] rfl ?_
    refine WO.assign rfl rfl rfl rfl ?_
    refine WO.done ?_
    refine At.seq_wc ?_
    refine WC.ret ?_
    refine At.seq_ret ?_
    obtain rfl := Option.some.inj hr
    exact At.ret (fun a w hc hs => (resVs_cons (hc.res rfl) resVs_nil)) (fun w hs => ⟨rfl, hs⟩)
  · have hr := cond_f hb1 hr
    refine WC.skip ?_
    refine At.seq_wc ?_
    refine WC.seq (fun a w => law16_segs_k1  = some r ∧ Ctx 27 [] a ∧ Sat (Mem.add F χ) Φ w) ?_ ?_
    · refine WC.then ?_
      refine WC.region [(0, true)] rfl ?_
      refine WO.assign rfl rfl rfl rfl ?_
      refine WO.done ?_
      refine At.seq_wc ?_
      obtain ⟨xl3, hl3, hk3⟩ := bind_some' hr
      refine WC.weaken (fun a w => .brk () = xl3 ∧ Ctx 27 [] a ∧ Sat (Mem.add F χ) Φ w) ?_ ?_
      · refine WC.block ?_
        refine WC.loop (fun (v7 : Int) a w => Ctx 27 [(0, .slice a_0 p0.length c_0), (1, .slice a_1 p1.length c_1), (5, .int .i64 v7)] a ∧ Sat (Mem.add F χ) Φ w) hl3 ?_ ?_
        · exact fun a w hc hs => ⟨(hc.keep (hc.keep (hc.keep hc.nil (t := 5) rfl) (t := 1) rfl) (t := 0) rfl), hs⟩
        · rintro v7 r3 hr a w ⟨hc, hs⟩
          refine WC.use hc hs ?_
          clear hc hs
          (try dsimp only at hr)
          unfold law16_segs_b2 at hr
          refine WC.then ?_
          refine WC.then ?_
          refine WC.region [(0, true), (1, true), (2, true), (3, true)] rfl ?_
          refine WO.move rfl rfl rfl rfl ?_
          refine WO.move rfl rfl rfl rfl ?_
          refine WO.len rfl rfl rfl rfl Try.underlying29 ?_
          refine WO.bin rfl rfl rfl rfl rfl rfl ?_
          refine WO.done ?_
          refine At.seq_wc ?_
          refine WC.cond rfl (fun hb11 => ?_) (fun hb11 => ?_)
          · have hr := cond_t hb11 hr
            refine WC.skip ?_
            refine At.seq_wc ?_
            refine WC.then ?_
            refine WC.block ?_
            refine WC.then ?_
            refine WC.draw (Sat (Mem.add F χ) (Φ)) (fun _ h => (h.arrange 1 0 [0] [] (by decide))) [(0, true), (1, true), (2, true), (3, true), (4, true), (5, true), (6, true), (7, true), (8, false), (9, true)] mixed (by kernel_rfl) rfl (by kernel_rfl) ?_
            refine WO.move rfl rfl rfl rfl ?_
            refine WO.move rfl rfl rfl rfl ?_
            obtain ⟨x12, hx13, hr⟩ := bind_some' hr
            refine WO.indexR h_0 hx13 rfl rfl rfl rfl rfl rfl Try.underlying29 sz_46 ?_
            rintro b14 o15 _ hc16 ⟨a17, c18, rfl, h19⟩
            refine WO.loadPA 0 4 hc16 rfl rfl rfl rfl rfl ag_46 rfl rfl ?_
            refine WO.move rfl rfl rfl rfl ?_
            refine WO.move rfl rfl rfl rfl ?_
            obtain ⟨x20, hx21, hr⟩ := bind_some' hr
            refine WO.indexR h_1 hx21 rfl rfl rfl rfl rfl rfl Try.underlying29 sz_46 ?_
            rintro b22 o23 _ hc24 ⟨a25, c26, rfl, h27⟩
            refine WO.loadPA 0 4 hc24 rfl rfl rfl rfl rfl ag_46 rfl rfl ?_
            obtain ⟨x28, hx29, hr⟩ := bind_some' hr
            refine WO.call rfl rfl rfl rfl rfl cl_29 (CallsRet.lay 1 0 1 [0] [] (by decide) (Mem.add F (List.flatten [χ])) (Φ) rfl rfl (ref16_Same_ok (F := F) (χ := (List.flatten [χ])) ⟨_, _, rfl, (h19.mono (mono_int _) (Mem.le_gather (Mem.add F χ) 1))⟩ ⟨_, _, rfl, (h27.mono (mono_int _) (Mem.le_gather (Mem.add F χ) 1))⟩ hx29 (Φ))) ?_
            rintro _ _ ⟨rfl, hs30⟩
            have hs30 := Sat.unlay F [χ] hs30
            have hs30 := (hs30.arrange 1 0 [0] [] (by decide))
            refine ⟨(Mem.add F χ), (Φ), hs30, (hs30.arrange 1 0 [0] [] (by decide)), ?_⟩
            refine WO.un rfl rfl rfl rfl rfl ?_
            refine WO.done ?_
            refine At.seq_wc ?_
            refine WC.cond rfl (fun hb31 => ?_) (fun hb31 => ?_)
            · have hr := cond_t hb31 hr
              refine WC.then ?_
              refine WC.region [(0, true)] rfl ?_
              refine WO.assign rfl rfl rfl rfl ?_
              refine WO.done ?_
              refine At.seq_wc ?_
              refine WC.ret ?_
              refine At.block_ret ?_
              refine At.seq_ret ?_
              refine At.round_ret hr (fun hy => ?_)
              subst hy
              have hr := hk3
              refine At.block_ret ?_
              refine At.seq_ret ?_
              refine At.seq_ret ?_
              obtain rfl := Option.some.inj hr
              exact At.ret (fun a w hc hs => (resVs_cons (hc.res rfl) resVs_nil)) (fun w hs => ⟨rfl, hs⟩)
            · have hr := cond_f hb31 hr
              refine WC.skip ?_
              refine At.block_normal ?_
              refine At.seq_wc ?_
              refine WC.region [(0, true), (1, true), (2, true)] rfl ?_
              refine WO.move rfl rfl rfl rfl ?_
              refine WO.bin rfl rfl rfl rfl rfl rfl ?_
              refine WO.assign rfl rfl rfl rfl ?_
              refine WO.done ?_
              refine At.round_next hr ?_
              exact fun a w hc hs => ⟨(hc.keep (hc.keep (hc.keep hc.nil (t := 5) rfl) (t := 1) rfl) (t := 0) rfl), hs⟩
          · have hr := cond_f hb11 hr
            refine WC.exit ?_
            refine At.seq_exit ?_
            refine At.round_exit hr (fun hy => ?_)
            refine At.exit_block ?_
            refine At.seq_at ?_
            exact fun a w hc hs => ⟨hy, hc.nil, hs⟩
      · rintro a w ⟨rfl, hc, hs⟩
        refine At.use hc hs ?_
        clear hc hs
        (try dsimp only at hk3)
        have hr := hk3
        refine At.seq_at ?_
        exact fun a w hc hs => ⟨hr, hc.nil, hs⟩
    · rintro a w ⟨hr, hc, hs⟩
      refine WC.use hc hs ?_
      clear hc hs
      unfold law16_segs_k1 at hr
      refine WC.then ?_
      refine WC.region [(0, true)] rfl ?_
      refine WO.assign rfl rfl rfl rfl ?_
      refine WO.done ?_
      refine At.seq_wc ?_
      refine WC.ret ?_
      obtain rfl := Option.some.inj hr
      exact At.ret (fun a w hc hs => (resVs_cons (hc.res rfl) resVs_nil)) (fun w hs => ⟨rfl, hs⟩)
/-! (*peloton/pelotonref16.Link).find -/
def ref16_Link_find_vvvvvvvvoov_k1  : Option Int := some (-1)
def ref16_Link_find_vvvvvvvvoov_b2 (p0 : S_ref16_Link) (p1 : Int) (v6 : Int) : Option (Int ⊕ (Lp Int Unit)) := cond (decide (v6 < (p0.Early.length : Int))) ((getI p0.Early v6).bind fun x11 => cond (x11.Seq == p1) (some (.inr (.ret v6))) (some (.inl (IntKind.wrap .i64 (v6 + 1))))) (some (.inr (.brk ())))
def ref16_Link_find_vvvvvvvvoov (p0 : S_ref16_Link) (p1 : Int) : Option Int := (loopO (fun s => ref16_Link_find_vvvvvvvvoov_b2 p0 p1 s) 0).bind (fun | .ret r => some r | .brk _ => ref16_Link_find_vvvvvvvvoov_k1 )
theorem ref16_Link_find_vvvvvvvvoov_ok {F : Mem} {p0 : S_ref16_Link} {p1 : Int} {b_0 : Nat} {a_0_8 : Option Addr} {c_0_8 : Nat} {ψ_0_8 : List Chunk} (ho_0_8 : OwnL 3 R_ref16_Body F 81 a_0_8 c_0_8 p0.Out ψ_0_8) {a_0_9 : Option Addr} {c_0_9 : Nat} {ψ_0_9 : List Chunk} (ho_0_9 : OwnL 2 R_ref16_Early F 88 a_0_9 c_0_9 p0.Early ψ_0_9) {r : Int} (hr : ref16_Link_find_vvvvvvvvoov p0 p1 = some r) (Φ : List (List Chunk)) :
    CallsRet Try.prog 32 (List.toArray [.pointer (some ⟨b_0, 0, none⟩), .int .i64 p1]) F ([(b_0, row [.int .i64 p0.Window, .int .i64 p0.Span, .int .i64 p0.Room, .int .i64 p0.Epoch, .int .i64 p0.Next, .int .i64 p0.Acked, .int .i64 p0.Sent, .int .i64 p0.Got, .slice a_0_8 p0.Out.length c_0_8, .slice a_0_9 p0.Early.length c_0_9, .bool p0.Owes] 54)] :: ψ_0_8 :: ψ_0_9 :: Φ) (fun v w => v = .int .i64 r ∧ Sat F ([(b_0, row [.int .i64 p0.Window, .int .i64 p0.Span, .int .i64 p0.Room, .int .i64 p0.Epoch, .int .i64 p0.Next, .int .i64 p0.Acked, .int .i64 p0.Sent, .int .i64 p0.Got, .slice a_0_8 p0.Out.length c_0_8, .slice a_0_9 p0.Early.length c_0_9, .bool p0.Owes] 54)] :: ψ_0_8 :: ψ_0_9 :: Φ) w) := by
  refine CallsRet.enter (rs := [.tmp 4]) Try.func32 rfl rfl rfl rfl ?_
  unfold ref16_Link_find_vvvvvvvvoov at hr
  refine WC.then ?_
  refine WC.region [(0, true)] rfl ?_
  refine WO.assign rfl rfl rfl rfl ?_
  refine WO.done ?_
  refine At.seq_wc ?_
  refine WC.seq (fun a w => ref16_Link_find_vvvvvvvvoov_k1  = some r ∧ Ctx 26 [] a ∧ Sat F ([(b_0, row [.int .i64 p0.Window, .int .i64 p0.Span, .int .i64 p0.Room, .int .i64 p0.Epoch, .int .i64 p0.Next, .int .i64 p0.Acked, .int .i64 p0.Sent, .int .i64 p0.Got, .slice a_0_8 p0.Out.length c_0_8, .slice a_0_9 p0.Early.length c_0_9, .bool p0.Owes] 54)] :: ψ_0_8 :: ψ_0_9 :: Φ) w) ?_ ?_
  · refine WC.then ?_
    refine WC.region [(0, true)] rfl ?_
    refine WO.assign rfl rfl rfl rfl ?_
    refine WO.done ?_
    refine At.seq_wc ?_
    obtain ⟨xl3, hl3, hk3⟩ := bind_some' hr
    refine WC.weaken (fun a w => .brk () = xl3 ∧ Ctx 26 [] a ∧ Sat F ([(b_0, row [.int .i64 p0.Window, .int .i64 p0.Span, .int .i64 p0.Room, .int .i64 p0.Epoch, .int .i64 p0.Next, .int .i64 p0.Acked, .int .i64 p0.Sent, .int .i64 p0.Got, .slice a_0_8 p0.Out.length c_0_8, .slice a_0_9 p0.Early.length c_0_9, .bool p0.Owes] 54)] :: ψ_0_8 :: ψ_0_9 :: Φ) w) ?_ ?_
    · refine WC.block ?_
      refine WC.loop (fun (v6 : Int) a w => Ctx 26 [(0, .pointer (some ⟨b_0, 0, none⟩)), (1, .int .i64 p1), (5, .int .i64 v6)] a ∧ Sat F ([(b_0, row [.int .i64 p0.Window, .int .i64 p0.Span, .int .i64 p0.Room, .int .i64 p0.Epoch, .int .i64 p0.Next, .int .i64 p0.Acked, .int .i64 p0.Sent, .int .i64 p0.Got, .slice a_0_8 p0.Out.length c_0_8, .slice a_0_9 p0.Early.length c_0_9, .bool p0.Owes] 54)] :: ψ_0_8 :: ψ_0_9 :: Φ) w) hl3 ?_ ?_
      · exact fun a w hc hs => ⟨(hc.keep (hc.keep (hc.keep hc.nil (t := 5) rfl) (t := 1) rfl) (t := 0) rfl), hs⟩
      · rintro v6 r3 hr a w ⟨hc, hs⟩
        refine WC.use hc hs ?_
        clear hc hs
        (try dsimp only at hr)
        unfold ref16_Link_find_vvvvvvvvoov_b2 at hr
        refine WC.then ?_
        refine WC.then ?_
        refine WC.region [(0, true), (1, true), (2, true), (3, true), (4, false), (5, true), (6, true)] rfl ?_
        refine WO.move rfl rfl rfl rfl ?_
        refine WO.move rfl rfl rfl rfl ?_
        refine WO.nilCheck rfl rfl rfl rfl ?_
        refine WO.fieldAddr 9 rfl rfl rfl rfl fl_54_9 ?_
        refine WO.load 0 rfl rfl rfl rfl sc_52 rfl rfl ?_
        refine WO.len rfl rfl rfl rfl Try.underlying52 ?_
        refine WO.bin rfl rfl rfl rfl rfl rfl ?_
        refine WO.done ?_
        refine At.seq_wc ?_
        refine WC.cond rfl (fun hb10 => ?_) (fun hb10 => ?_)
        · have hr := cond_t hb10 hr
          refine WC.skip ?_
          refine At.seq_wc ?_
          refine WC.then ?_
          refine WC.block ?_
          refine WC.then ?_
          refine WC.region [(0, true), (1, true), (2, true), (3, false), (4, true), (5, true), (6, true), (7, false), (8, true), (9, true)] rfl ?_
          refine WO.move rfl rfl rfl rfl ?_
          refine WO.nilCheck rfl rfl rfl rfl ?_
          refine WO.fieldAddr 9 rfl rfl rfl rfl fl_54_9 ?_
          refine WO.load 0 rfl rfl rfl rfl sc_52 rfl rfl ?_
          refine WO.move rfl rfl rfl rfl ?_
          obtain ⟨x11, hx12, hr⟩ := bind_some' hr
          refine WO.indexQ ho_0_9 hx12 rfl rfl rfl rfl rfl rfl Try.underlying52 sz_88 (fun b13 cs14 hb15 h16 hq17 => ?_)
          subst hb15
          obtain ⟨a18, c19, rfl, h20⟩ := h16
          refine WO.fieldAddr 0 rfl rfl rfl rfl fl_88_0 ?_
          refine WO.loadQ 2 0 hq17 rfl rfl rfl rfl rfl rfl sc_3 rfl ?_
          refine WO.move rfl rfl rfl rfl ?_
          refine WO.bin rfl rfl rfl rfl rfl rfl ?_
          refine WO.done ?_
          refine At.seq_wc ?_
          refine WC.cond rfl (fun hb21 => ?_) (fun hb21 => ?_)
          · have hr := cond_t hb21 hr
            refine WC.then ?_
            refine WC.region [(0, true), (1, true)] rfl ?_
            refine WO.move rfl rfl rfl rfl ?_
            refine WO.assign rfl rfl rfl rfl ?_
            refine WO.done ?_
            refine At.seq_wc ?_
            refine WC.ret ?_
            refine At.block_ret ?_
            refine At.seq_ret ?_
            refine At.round_ret hr (fun hy => ?_)
            subst hy
            have hr := hk3
            refine At.block_ret ?_
            refine At.seq_ret ?_
            refine At.seq_ret ?_
            obtain rfl := Option.some.inj hr
            exact At.ret (fun a w hc hs => (resVs_cons (hc.res rfl) resVs_nil)) (fun w hs => ⟨rfl, hs⟩)
          · have hr := cond_f hb21 hr
            refine WC.skip ?_
            refine At.block_normal ?_
            refine At.seq_wc ?_
            refine WC.region [(0, true), (1, true), (2, true)] rfl ?_
            refine WO.move rfl rfl rfl rfl ?_
            refine WO.bin rfl rfl rfl rfl rfl rfl ?_
            refine WO.assign rfl rfl rfl rfl ?_
            refine WO.done ?_
            refine At.round_next hr ?_
            exact fun a w hc hs => ⟨(hc.keep (hc.keep (hc.keep hc.nil (t := 5) rfl) (t := 1) rfl) (t := 0) rfl), hs⟩
        · have hr := cond_f hb10 hr
          refine WC.exit ?_
          refine At.seq_exit ?_
          refine At.round_exit hr (fun hy => ?_)
          refine At.exit_block ?_
          refine At.seq_at ?_
          exact fun a w hc hs => ⟨hy, hc.nil, hs⟩
    · rintro a w ⟨rfl, hc, hs⟩
      refine At.use hc hs ?_
      clear hc hs
      (try dsimp only at hk3)
      have hr := hk3
      refine At.seq_at ?_
      exact fun a w hc hs => ⟨hr, hc.nil, hs⟩
  · rintro a w ⟨hr, hc, hs⟩
    refine WC.use hc hs ?_
    clear hc hs
    unfold ref16_Link_find_vvvvvvvvoov_k1 at hr
    refine WC.then ?_
    refine WC.region [(0, true)] rfl ?_
    refine WO.assign rfl rfl rfl rfl ?_
    refine WO.done ?_
    refine At.seq_wc ?_
    refine WC.ret ?_
    obtain rfl := Option.some.inj hr
    exact At.ret (fun a w hc hs => (resVs_cons (hc.res rfl) resVs_nil)) (fun w hs => ⟨rfl, hs⟩)
end
end Go.Pel

/- Each function: its pure text, and that it comes to it. -/
import Derived.Test.YtnmienbmlfpdoaaPelLinkX2
set_option linter.unusedVariables false
set_option maxHeartbeats 2000000
namespace Go.Pel
open Go.RowKit Go.Proofs
noncomputable section
/-! peloton/pelotonlaw16.LinkActs -/
def law16_LinkActs_k2 (x9 : (Option S_link_Link) × Int) : Option Bool := some (x9.2 == 2)
def law16_LinkActs_k3  : Option Bool := some false
def law16_LinkActs_k4  : Option Bool := some false
def law16_LinkActs_k6 (v43 : S_ref16_Link) (v54 : S_link_Link) : Option Bool := some true
def law16_LinkActs_k10 (v89 : Int) (v175 : S_ref16_Link) (v186 : S_link_Link) (v197 : Bool) : Option ((Int × S_ref16_Link × S_link_Link) ⊕ (Lp Bool (S_ref16_Link × S_link_Link))) := cond v197 (some (.inr (.ret false))) (some (.inl ((IntKind.wrap .i64 (v89 + 1)), v175, v186)))
def law16_LinkActs_k9 (p0 : S_law16_Sides) (v89 : Int) (v175 : S_ref16_Link) (v186 : S_link_Link) : Option ((Int × S_ref16_Link × S_link_Link) ⊕ (Lp Bool (S_ref16_Link × S_link_Link))) := (link_Link_Left_vvvvvvvvovmv v186).bind fun x199 => cond (x199 != (v175.Out.length : Int)) (law16_LinkActs_k10 v89 v175 v186 true) ((link_Link_Got_vvvvvvvvovmv v186).bind fun x203 => cond (x203 != v175.Got) (law16_LinkActs_k10 v89 v175 v186 true) ((link_Link_Epoch_vvvvvvvvovmv v186).bind fun x207 => cond (x207 != v175.Epoch) (law16_LinkActs_k10 v89 v175 v186 true) ((link_Link_Left_vvvvvvvvovmv v186).bind fun x211 => law16_LinkActs_k10 v89 v175 v186 (decide (x211 > p0.Room)))))
def law16_LinkActs_k11 (p0 : S_law16_Sides) (v89 : Int) (x285 : (List (List Int)) × Int × S_link_Link) (x303 : (List (List Int)) × Int × S_ref16_Link) (v323 : Bool) : Option ((Int × S_ref16_Link × S_link_Link) ⊕ (Lp Bool (S_ref16_Link × S_link_Link))) := cond v323 (some (.inr (.ret false))) (law16_LinkActs_k9 p0 v89 x303.2.2 x285.2.2)
def law16_LinkActs_b7 (p0 : S_law16_Sides) (p1 : List S_law16_Act) (v89 : Int) (v90 : S_ref16_Link) (v101 : S_link_Link) : Option ((Int × S_ref16_Link × S_link_Link) ⊕ (Lp Bool (S_ref16_Link × S_link_Link))) := cond (decide (v89 < (p1.length : Int))) ((getI p1 v89).bind fun x157 => (law16_Act_small x157).bind fun x170 => cond (!x170) (some (.inr (.ret true))) (cond (x157.Kind == 0) ((link_Link_Send_vvvvvvvvovmv v101 x157.Bodies).bind fun x215 => (ref16_Link_Send_vvvvvvvvoov v90 x157.Bodies).bind fun x228 => cond (x215.1 != x228.1) (some (.inr (.ret false))) (law16_LinkActs_k9 p0 v89 x228.2 x215.2)) (cond (x157.Kind == 1) ((link_Link_Tick_vvvvvvvvovmv v101).bind fun x244 => (ref16_Link_Tick_vvvvvvvvoov v90).bind fun x262 => (law16_segs x244.1 x262.1).bind fun x280 => cond (!x280) (some (.inr (.ret false))) (law16_LinkActs_k9 p0 v89 x262.2 x244.2)) (cond (x157.Kind == 2) ((link_Link_Hear_vvvvvvvvovmv v101 x157.S).bind fun x285 => (ref16_Link_Hear_vvvvvvvvoov v90 x157.S).bind fun x303 => cond (x285.2.1 != x303.2.1) (law16_LinkActs_k11 p0 v89 x285 x303 true) ((law16_bodies x285.1 x303.1).bind fun x326 => law16_LinkActs_k11 p0 v89 x285 x303 (!x326))) (cond (x157.Kind == 3) ((link_Link_Reset_vvvvvvvvovmv v101 x157.N).bind fun x330 => (ref16_Link_Reset_vvvvvvvvoov v90 x157.N).bind fun x342 => cond (x330.1 != x342.1) (some (.inr (.ret false))) (law16_LinkActs_k9 p0 v89 x342.2 x330.2)) (law16_LinkActs_k9 p0 v89 v90 v101)))))) (some (.inr (.brk (v90, v101))))
def law16_LinkActs_k5 (p0 : S_law16_Sides) (p1 : List S_law16_Act) (x9 : (Option S_link_Link) × Int) (o11 : S_link_Link) : Option Bool := cond (x9.2 != 0) (some false) ((loopO (fun s => law16_LinkActs_b7 p0 p1 s.1 s.2.1 s.2.2) (0, (⟨p0.Window, p0.Span, p0.Room, 0, 0, 0, 0, 0, [], [], false⟩ : S_ref16_Link), o11)).bind (fun | .ret r => some r | .brk (v135, v146) => law16_LinkActs_k6 v135 v146))
def law16_LinkActs_k1 (p0 : S_law16_Sides) (p1 : List S_law16_Act) (v4 : Bool) : Option Bool := cond v4 ((law16_awake).bind fun x6 => some x6) ((link_New p0.Window p0.Span p0.Room).bind fun x9 => Option.elim x9.1 ((ref16_Right p0.Window p0.Span p0.Room).bind fun x14 => cond (!x14) (law16_LinkActs_k2 x9) (law16_LinkActs_k3 )) (fun o11 => (ref16_Right p0.Window p0.Span p0.Room).bind fun x33 => cond (!x33) (law16_LinkActs_k4 ) (law16_LinkActs_k5 p0 p1 x9 o11)))
def law16_LinkActs (p0 : S_law16_Sides) (p1 : List S_law16_Act) : Option Bool := (law16_awake).bind fun x360 => cond (!x360) (law16_LinkActs_k1 p0 p1 true) (law16_LinkActs_k1 p0 p1 (decide ((p1.length : Int) > 100)))
theorem law16_LinkActs_ok {F : Mem} {χ : List Chunk} {p0 : S_law16_Sides} {p1 : List S_law16_Act} {cs_0 : List Value} (h_0 : R_law16_Sides F cs_0 p0) {a_1 : Option Addr} {c_1 : Nat} (h_1 : RdL 7 R_law16_Act (Mem.add F χ) a_1 c_1 p1) {r : Bool} (hr : law16_LinkActs p0 p1 = some r) (Φ : List (List Chunk)) :
    CallsRet Try.prog 4 (List.toArray [.agg cs_0.toArray, .slice a_1 p1.length c_1]) (Mem.add F χ) Φ (fun v w => v = .bool r ∧ Sat (Mem.add F χ) (Φ) w) := by
  obtain rfl := h_0
  refine CallsRet.enter (rs := [.tmp 4]) Try.func4 rfl rfl rfl rfl ?_
  unfold law16_LinkActs at hr
  refine WC.then ?_
  refine WC.region [(0, false), (1, true)] rfl ?_
  refine WO.box rfl rfl rfl rfl rfl (fun _ _ _ => trivial) (fun b1 => ?_)
  refine WO.assign rfl rfl rfl rfl ?_
  refine WO.done ?_
  refine At.seq_wc ?_
  refine WC.then ?_
  refine WC.seq (fun a w => ∃ (v4 : Bool), law16_LinkActs_k1 p0 p1 v4 = some r ∧ Ctx 163 [(1, .slice a_1 p1.length c_1), (2, .pointer (some ⟨b1, 0, none⟩)), (20, .bool v4)] a ∧ Sat (Mem.add F χ) ([(b1, row [.int .i64 p0.Window, .int .i64 p0.Span, .int .i64 p0.Room] 23)] :: Φ) w) ?_ ?_
  · refine WC.region [(0, false), (1, true), (2, true), (3, true), (4, true), (5, true), (6, true)] rfl ?_
    obtain ⟨x360, hx361, hr⟩ := bind_some' hr
    refine WO.call rfl rfl rfl rfl rfl cl_5 (CallsRet.lay0 1 1 [] [0, 1] (by decide) F (χ :: [(b1, row [.int .i64 p0.Window, .int .i64 p0.Span, .int .i64 p0.Room] 23)] :: Φ) rfl rfl (law16_awake_ok (F := F) hx361 (χ :: [(b1, row [.int .i64 p0.Window, .int .i64 p0.Span, .int .i64 p0.Room] 23)] :: Φ))) ?_
    rintro _ _ ⟨rfl, hs362⟩
    have hs362 := (hs362.arrange 0 2 [0] [1] (by decide))
    refine ⟨(Mem.add F χ), ([(b1, row [.int .i64 p0.Window, .int .i64 p0.Span, .int .i64 p0.Room] 23)] :: Φ), hs362, trivial, ?_⟩
    refine WO.un rfl rfl rfl rfl rfl ?_
    refine WO.move rfl rfl rfl rfl ?_
    refine WO.split (t := 16) rfl (fun hg363 => ?_) (fun hg363 => ?_)
    · have hr := cond_t hg363 hr
      refine WO.skip rfl rfl rfl rfl ?_
      refine WO.skip rfl rfl rfl rfl ?_
      refine WO.skip rfl rfl rfl rfl ?_
      refine WO.pickT rfl rfl rfl rfl rfl ?_
      refine WO.done ?_
      refine At.seq_at ?_
      exact fun a w hc hs => ⟨true, hr, (hc.keep (hc.keep (hc.keep hc.nil (t := 20) rfl) (t := 2) rfl) (t := 1) rfl), hs⟩
    · have hr := cond_f hg363 hr
      refine WO.move rfl rfl rfl rfl ?_
      refine WO.len rfl rfl rfl rfl Try.underlying48 ?_
      refine WO.bin rfl rfl rfl rfl rfl rfl ?_
      refine WO.pickF rfl rfl rfl rfl rfl ?_
      refine WO.done ?_
      refine At.seq_at ?_
      exact fun a w hc hs => ⟨(decide ((p1.length : Int) > 100)), hr, (hc.keep (hc.keep (hc.keep hc.nil (t := 20) rfl) (t := 2) rfl) (t := 1) rfl), hs⟩
  · rintro a w ⟨v4, hr, hc, hs⟩
    refine WC.use hc hs ?_
    clear hc hs
    unfold law16_LinkActs_k1 at hr
    refine WC.cond rfl (fun hb5 => ?_) (fun hb5 => ?_)
    · have hr := cond_t hb5 hr
      refine WC.then ?_
      refine WC.region [(0, false), (1, true)] rfl ?_
      obtain ⟨x6, hx7, hr⟩ := bind_some' hr
      refine WO.call rfl rfl rfl rfl rfl cl_5 (CallsRet.lay0 1 1 [] [0, 1] (by decide) F (χ :: [(b1, row [.int .i64 p0.Window, .int .i64 p0.Span, .int .i64 p0.Room] 23)] :: Φ) rfl rfl (law16_awake_ok (F := F) hx7 (χ :: [(b1, row [.int .i64 p0.Window, .int .i64 p0.Span, .int .i64 p0.Room] 23)] :: Φ))) ?_
      rintro _ _ ⟨rfl, hs8⟩
      have hs8 := (hs8.arrange 0 2 [0] [1] (by decide))
      refine ⟨(Mem.add F χ), ([(b1, row [.int .i64 p0.Window, .int .i64 p0.Span, .int .i64 p0.Room] 23)] :: Φ), hs8, trivial, ?_⟩
      refine WO.assign rfl rfl rfl rfl ?_
      refine WO.done ?_
      refine At.seq_wc ?_
      refine WC.ret ?_
      refine At.seq_ret ?_
      obtain rfl := Option.some.inj hr
      exact At.ret (fun a w hc hs => (resVs_cons (hc.res rfl) resVs_nil)) (fun w hs => ⟨rfl, (hs.arrange 1 1 [0] [] (by decide))⟩)
    · have hr := cond_f hb5 hr
      refine WC.skip ?_
      refine At.seq_wc ?_
      refine WC.then ?_
      refine WC.region [(0, true), (1, false), (2, true), (3, false), (4, true), (5, false), (6, false), (7, true), (8, true), (9, true), (10, true), (11, true)] rfl ?_
      refine WO.fieldAddr 0 rfl rfl rfl rfl fl_23_0 ?_
      refine WO.load 0 rfl rfl rfl rfl sc_3 rfl rfl ?_
      refine WO.fieldAddr 1 rfl rfl rfl rfl fl_23_1 ?_
      refine WO.load 0 rfl rfl rfl rfl sc_3 rfl rfl ?_
      refine WO.fieldAddr 2 rfl rfl rfl rfl fl_23_2 ?_
      refine WO.load 0 rfl rfl rfl rfl sc_3 rfl rfl ?_
      obtain ⟨x9, hx10, hr⟩ := bind_some' hr
      refine WO.call rfl rfl rfl rfl rfl cl_6 (CallsRet.lay0 1 1 [] [0, 1] (by decide) F (χ :: [(b1, row [.int .i64 p0.Window, .int .i64 p0.Span, .int .i64 p0.Room] 23)] :: Φ) rfl rfl (link_New_ok (F := F) hx10 (χ :: [(b1, row [.int .i64 p0.Window, .int .i64 p0.Span, .int .i64 p0.Room] 23)] :: Φ))) ?_
      rintro _ _ (⟨hn12, rfl, hs13⟩ | ⟨o11, b21, a22, c23, p25, b27, p28, hn20, rfl, hs32, h24, hm30⟩)
      · have hr := elim_none hn12 hr
        have hs13 := (hs13.arrange 0 2 [0] [1] (by decide))
        refine ⟨(Mem.add F χ), ([(b1, row [.int .i64 p0.Window, .int .i64 p0.Span, .int .i64 p0.Room] 23)] :: Φ), hs13, trivial, ?_⟩
        refine WO.move rfl rfl rfl rfl ?_
        refine WO.extract rfl rfl rfl rfl rfl ?_
        refine WO.extract rfl rfl rfl rfl rfl ?_
        refine WO.assign rfl rfl rfl rfl ?_
        refine WO.assign rfl rfl rfl rfl ?_
        refine WO.done ?_
        refine At.seq_wc ?_
        refine WC.then ?_
        refine WC.then ?_
        refine WC.region [(0, true), (1, false), (2, true), (3, false), (4, true), (5, false), (6, false), (7, true)] rfl ?_
        refine WO.fieldAddr 0 rfl rfl rfl rfl fl_23_0 ?_
        refine WO.load 0 rfl rfl rfl rfl sc_3 rfl rfl ?_
        refine WO.fieldAddr 1 rfl rfl rfl rfl fl_23_1 ?_
        refine WO.load 0 rfl rfl rfl rfl sc_3 rfl rfl ?_
        refine WO.fieldAddr 2 rfl rfl rfl rfl fl_23_2 ?_
        refine WO.load 0 rfl rfl rfl rfl sc_3 rfl rfl ?_
        obtain ⟨x14, hx15, hr⟩ := bind_some' hr
        refine WO.call rfl rfl rfl rfl rfl cl_11 (CallsRet.lay0 1 1 [] [0, 1] (by decide) F (χ :: [(b1, row [.int .i64 p0.Window, .int .i64 p0.Span, .int .i64 p0.Room] 23)] :: Φ) rfl rfl (ref16_Right_ok (F := F) hx15 (χ :: [(b1, row [.int .i64 p0.Window, .int .i64 p0.Span, .int .i64 p0.Room] 23)] :: Φ))) ?_
        rintro _ _ ⟨rfl, hs16⟩
        have hs16 := (hs16.arrange 0 2 [0] [1] (by decide))
        refine ⟨(Mem.add F χ), ([(b1, row [.int .i64 p0.Window, .int .i64 p0.Span, .int .i64 p0.Room] 23)] :: Φ), hs16, trivial, ?_⟩
        refine WO.un rfl rfl rfl rfl rfl ?_
        refine WO.done ?_
        refine At.seq_wc ?_
        refine WC.cond rfl (fun hb17 => ?_) (fun hb17 => ?_)
        · have hr := cond_t hb17 hr
          refine WC.seq (fun a w => law16_LinkActs_k2 x9 = some r ∧ Ctx 163 [(4, .bool (x9.2 == 2))] a ∧ Sat (Mem.add F χ) ([(b1, row [.int .i64 p0.Window, .int .i64 p0.Span, .int .i64 p0.Room] 23)] :: Φ) w) ?_ ?_
          · refine WC.region [(0, true), (1, true), (2, true), (3, true), (4, true), (5, true), (6, true)] rfl ?_
            refine WO.move rfl rfl rfl rfl ?_
            refine WO.eqNil rfl rfl rfl rfl rfl Try.underlying27 ?_
            refine WO.move rfl rfl rfl rfl ?_
            refine WO.move rfl rfl rfl rfl ?_
            refine WO.bin rfl rfl rfl rfl rfl rfl ?_
            refine WO.pickT rfl rfl rfl rfl rfl ?_
            refine WO.assign rfl rfl rfl rfl ?_
            refine WO.done ?_
            refine At.seq_at ?_
            exact fun a w hc hs => ⟨hr, (hc.keep hc.nil (t := 4) rfl), hs⟩
          · rintro a w ⟨hr, hc, hs⟩
            refine WC.use hc hs ?_
            clear hc hs
            unfold law16_LinkActs_k2 at hr
            refine WC.ret ?_
            refine At.seq_ret ?_
            obtain rfl := Option.some.inj hr
            exact At.ret (fun a w hc hs => (resVs_cons (hc.res rfl) resVs_nil)) (fun w hs => ⟨rfl, (hs.arrange 1 1 [0] [] (by decide))⟩)
        · have hr := cond_f hb17 hr
          refine WC.skip ?_
          refine At.seq_wc ?_
          refine WC.then ?_
          refine WC.seq (fun a w => law16_LinkActs_k3  = some r ∧ Ctx 163 [(1, .slice a_1 p1.length c_1), (2, .pointer (some ⟨b1, 0, none⟩)), (5, .pointer none), (51, .bool true)] a ∧ Sat (Mem.add F χ) ([(b1, row [.int .i64 p0.Window, .int .i64 p0.Span, .int .i64 p0.Room] 23)] :: Φ) w) ?_ ?_
          · refine WC.region [(0, true), (1, true), (2, true), (3, true), (4, true), (5, true)] rfl ?_
            refine WO.move rfl rfl rfl rfl ?_
            refine WO.eqNil rfl rfl rfl rfl rfl Try.underlying27 ?_
            refine WO.move rfl rfl rfl rfl ?_
            refine WO.skip rfl rfl rfl rfl ?_
            refine WO.skip rfl rfl rfl rfl ?_
            refine WO.pickT rfl rfl rfl rfl rfl ?_
            refine WO.done ?_
            refine At.seq_at ?_
            exact fun a w hc hs => ⟨hr, (hc.keep (hc.keep (hc.keep (hc.keep hc.nil (t := 51) rfl) (t := 5) rfl) (t := 2) rfl) (t := 1) rfl), hs⟩
          · rintro a w ⟨hr, hc, hs⟩
            refine WC.use hc hs ?_
            clear hc hs
            unfold law16_LinkActs_k3 at hr
            refine WC.condT rfl ?_
            refine WC.then ?_
            refine WC.region [(0, true)] rfl ?_
            refine WO.assign rfl rfl rfl rfl ?_
            refine WO.done ?_
            refine At.seq_wc ?_
            refine WC.ret ?_
            refine At.seq_ret ?_
            obtain rfl := Option.some.inj hr
            exact At.ret (fun a w hc hs => (resVs_cons (hc.res rfl) resVs_nil)) (fun w hs => ⟨rfl, (hs.arrange 1 1 [0] [] (by decide))⟩)
      · have hr := elim_some hn20 hr
        have hs32 := (hs32.arrange 0 5 [3] [0, 1, 2, 4] (by decide))
        refine ⟨(Mem.add F χ), ([(b21, row [.int .i64 o11.window, .int .i64 o11.span, .int .i64 o11.room, .int .i64 o11.epoch, .int .i64 o11.now, .int .i64 o11.next, .int .i64 o11.acked, .int .i64 o11.sent, .slice a22 o11.out.length c23, .int .i64 o11.got, .map (some b27), .bool o11.owes] 74)] :: p25 :: p28 :: [(b1, row [.int .i64 p0.Window, .int .i64 p0.Span, .int .i64 p0.Room] 23)] :: Φ), hs32, trivial, ?_⟩
        refine WO.move rfl rfl rfl rfl ?_
        refine WO.extract rfl rfl rfl rfl rfl ?_
        refine WO.extract rfl rfl rfl rfl rfl ?_
        refine WO.assign rfl rfl rfl rfl ?_
        refine WO.assign rfl rfl rfl rfl ?_
        refine WO.done ?_
        refine At.seq_wc ?_
        refine WC.then ?_
        refine WC.then ?_
        refine WC.region [(0, true), (1, false), (2, true), (3, false), (4, true), (5, false), (6, false), (7, true)] rfl ?_
        refine WO.fieldAddr 0 rfl rfl rfl rfl fl_23_0 ?_
        refine WO.load 3 rfl rfl rfl rfl sc_3 rfl rfl ?_
        refine WO.fieldAddr 1 rfl rfl rfl rfl fl_23_1 ?_
        refine WO.load 3 rfl rfl rfl rfl sc_3 rfl rfl ?_
        refine WO.fieldAddr 2 rfl rfl rfl rfl fl_23_2 ?_
        refine WO.load 3 rfl rfl rfl rfl sc_3 rfl rfl ?_
        obtain ⟨x33, hx34, hr⟩ := bind_some' hr
        refine WO.call rfl rfl rfl rfl rfl cl_11 (CallsRet.lay0 1 4 [] [0, 1, 2, 3, 4] (by decide) F (χ :: [(b21, row [.int .i64 o11.window, .int .i64 o11.span, .int .i64 o11.room, .int .i64 o11.epoch, .int .i64 o11.now, .int .i64 o11.next, .int .i64 o11.acked, .int .i64 o11.sent, .slice a22 o11.out.length c23, .int .i64 o11.got, .map (some b27), .bool o11.owes] 74)] :: p25 :: p28 :: [(b1, row [.int .i64 p0.Window, .int .i64 p0.Span, .int .i64 p0.Room] 23)] :: Φ) rfl rfl (ref16_Right_ok (F := F) hx34 (χ :: [(b21, row [.int .i64 o11.window, .int .i64 o11.span, .int .i64 o11.room, .int .i64 o11.epoch, .int .i64 o11.now, .int .i64 o11.next, .int .i64 o11.acked, .int .i64 o11.sent, .slice a22 o11.out.length c23, .int .i64 o11.got, .map (some b27), .bool o11.owes] 74)] :: p25 :: p28 :: [(b1, row [.int .i64 p0.Window, .int .i64 p0.Span, .int .i64 p0.Room] 23)] :: Φ))) ?_
        rintro _ _ ⟨rfl, hs35⟩
        have hs35 := (hs35.arrange 0 5 [0] [1, 2, 3, 4] (by decide))
        refine ⟨(Mem.add F χ), ([(b21, row [.int .i64 o11.window, .int .i64 o11.span, .int .i64 o11.room, .int .i64 o11.epoch, .int .i64 o11.now, .int .i64 o11.next, .int .i64 o11.acked, .int .i64 o11.sent, .slice a22 o11.out.length c23, .int .i64 o11.got, .map (some b27), .bool o11.owes] 74)] :: p25 :: p28 :: [(b1, row [.int .i64 p0.Window, .int .i64 p0.Span, .int .i64 p0.Room] 23)] :: Φ), hs35, trivial, ?_⟩
        refine WO.un rfl rfl rfl rfl rfl ?_
        refine WO.done ?_
        refine At.seq_wc ?_
        refine WC.cond rfl (fun hb36 => ?_) (fun hb36 => ?_)
        · have hr := cond_t hb36 hr
          refine WC.seq (fun a w => law16_LinkActs_k4  = some r ∧ Ctx 163 [(4, .bool false)] a ∧ Sat (Mem.add F χ) ([(b21, row [.int .i64 o11.window, .int .i64 o11.span, .int .i64 o11.room, .int .i64 o11.epoch, .int .i64 o11.now, .int .i64 o11.next, .int .i64 o11.acked, .int .i64 o11.sent, .slice a22 o11.out.length c23, .int .i64 o11.got, .map (some b27), .bool o11.owes] 74)] :: p25 :: p28 :: [(b1, row [.int .i64 p0.Window, .int .i64 p0.Span, .int .i64 p0.Room] 23)] :: Φ) w) ?_ ?_
          · refine WC.region [(0, true), (1, true), (2, true), (3, true), (4, true), (5, true), (6, true)] rfl ?_
            refine WO.move rfl rfl rfl rfl ?_
            refine WO.eqNil rfl rfl rfl rfl rfl Try.underlying27 ?_
            refine WO.move rfl rfl rfl rfl ?_
            refine WO.skip rfl rfl rfl rfl ?_
            refine WO.skip rfl rfl rfl rfl ?_
            refine WO.pickF rfl rfl rfl rfl rfl ?_
            refine WO.assign rfl rfl rfl rfl ?_
            refine WO.done ?_
            refine At.seq_at ?_
            exact fun a w hc hs => ⟨hr, (hc.keep hc.nil (t := 4) rfl), hs⟩
          · rintro a w ⟨hr, hc, hs⟩
            refine WC.use hc hs ?_
            clear hc hs
            unfold law16_LinkActs_k4 at hr
            refine WC.ret ?_
            refine At.seq_ret ?_
            obtain rfl := Option.some.inj hr
            exact At.ret (fun a w hc hs => (resVs_cons (hc.res rfl) resVs_nil)) (fun w hs => ⟨rfl, (hs.arrange 1 4 [0] [] (by decide))⟩)
        · have hr := cond_f hb36 hr
          refine WC.skip ?_
          refine At.seq_wc ?_
          refine WC.then ?_
          refine WC.seq (fun a w => law16_LinkActs_k5 p0 p1 x9 o11 = some r ∧ Ctx 163 [(1, .slice a_1 p1.length c_1), (2, .pointer (some ⟨b1, 0, none⟩)), (5, .pointer (some ⟨b21, 0, none⟩)), (51, .bool (x9.2 != 0))] a ∧ Sat (Mem.add F χ) ([(b21, row [.int .i64 o11.window, .int .i64 o11.span, .int .i64 o11.room, .int .i64 o11.epoch, .int .i64 o11.now, .int .i64 o11.next, .int .i64 o11.acked, .int .i64 o11.sent, .slice a22 o11.out.length c23, .int .i64 o11.got, .map (some b27), .bool o11.owes] 74)] :: p25 :: p28 :: [(b1, row [.int .i64 p0.Window, .int .i64 p0.Span, .int .i64 p0.Room] 23)] :: Φ) w) ?_ ?_
          · refine WC.region [(0, true), (1, true), (2, true), (3, true), (4, true), (5, true)] rfl ?_
            refine WO.move rfl rfl rfl rfl ?_
            refine WO.eqNil rfl rfl rfl rfl rfl Try.underlying27 ?_
            refine WO.move rfl rfl rfl rfl ?_
            refine WO.move rfl rfl rfl rfl ?_
            refine WO.bin rfl rfl rfl rfl rfl rfl ?_
            refine WO.pickF rfl rfl rfl rfl rfl ?_
            refine WO.done ?_
            refine At.seq_at ?_
            exact fun a w hc hs => ⟨hr, (hc.keep (hc.keep (hc.keep (hc.keep hc.nil (t := 51) rfl) (t := 5) rfl) (t := 2) rfl) (t := 1) rfl), hs⟩
          · rintro a w ⟨hr, hc, hs⟩
            refine WC.use hc hs ?_
            clear hc hs
            unfold law16_LinkActs_k5 at hr
            refine WC.cond rfl (fun hb39 => ?_) (fun hb39 => ?_)
            · have hr := cond_t hb39 hr
              refine WC.then ?_
              refine WC.region [(0, true)] rfl ?_
              refine WO.assign rfl rfl rfl rfl ?_
              refine WO.done ?_
              refine At.seq_wc ?_
              refine WC.ret ?_
              refine At.seq_ret ?_
              obtain rfl := Option.some.inj hr
              exact At.ret (fun a w hc hs => (resVs_cons (hc.res rfl) resVs_nil)) (fun w hs => ⟨rfl, (hs.arrange 1 4 [0] [] (by decide))⟩)
            · have hr := cond_f hb39 hr
              refine WC.skip ?_
              refine At.seq_wc ?_
              refine WC.then ?_
              refine WC.region [(0, true), (1, false), (2, true), (3, false), (4, true), (5, false), (6, true), (7, false), (8, true)] rfl ?_
              refine WO.fieldAddr 0 rfl rfl rfl rfl fl_23_0 ?_
              refine WO.load 3 rfl rfl rfl rfl sc_3 rfl rfl ?_
              refine WO.fieldAddr 1 rfl rfl rfl rfl fl_23_1 ?_
              refine WO.load 3 rfl rfl rfl rfl sc_3 rfl rfl ?_
              refine WO.fieldAddr 2 rfl rfl rfl rfl fl_23_2 ?_
              refine WO.load 3 rfl rfl rfl rfl sc_3 rfl rfl ?_
              refine WO.build (vs := [.tmp 53, .tmp 55, .tmp 57]) [0, 1, 2] (.agg (List.toArray [.int .i64 p0.Window, .int .i64 p0.Span, .int .i64 p0.Room, .int .i64 0, .int .i64 0, .int .i64 0, .int .i64 0, .int .i64 0, .slice none 0 0, .slice none 0 0, .bool false])) rfl rfl rfl rfl rfl (fun _ => by kernel_rfl) ?_
              refine WO.box rfl rfl rfl rfl rfl (fun _ _ _ => trivial) (fun b40 => ?_)
              refine WO.assign rfl rfl rfl rfl ?_
              refine WO.done ?_
              refine At.seq_wc ?_
              refine WC.seq (fun a w => ∃ (v43 : S_ref16_Link) (v54 : S_link_Link) (a44 : Option Addr) (c45 : Nat) (p46 : List Chunk) (a49 : Option Addr) (c50 : Nat) (p51 : List Chunk) (a55 : Option Addr) (c56 : Nat) (p57 : List Chunk) (b60 : Nat) (p61 : List Chunk) (w42 : List Chunk), law16_LinkActs_k6 v43 v54 = some r ∧ Ctx 163 [] a ∧ Sat (Mem.add (Mem.add F χ) w42) (p46 :: p51 :: p57 :: p61 :: [(b40, row [.int .i64 v43.Window, .int .i64 v43.Span, .int .i64 v43.Room, .int .i64 v43.Epoch, .int .i64 v43.Next, .int .i64 v43.Acked, .int .i64 v43.Sent, .int .i64 v43.Got, .slice a44 v43.Out.length c45, .slice a49 v43.Early.length c50, .bool v43.Owes] 54)] :: [(b21, row [.int .i64 v54.window, .int .i64 v54.span, .int .i64 v54.room, .int .i64 v54.epoch, .int .i64 v54.now, .int .i64 v54.next, .int .i64 v54.acked, .int .i64 v54.sent, .slice a55 v54.out.length c56, .int .i64 v54.got, .map (some b60), .bool v54.owes] 74)] :: [(b1, row [.int .i64 p0.Window, .int .i64 p0.Span, .int .i64 p0.Room] 23)] :: Φ) w ∧ OwnL 3 R_ref16_Body (Mem.add F w42) 81 a44 c45 v43.Out p46 ∧ OwnL 2 R_ref16_Early (Mem.add F w42) 88 a49 c50 v43.Early p51 ∧ OwnL 3 R_link_body (Mem.add F w42) 79 a55 c56 v54.out p57 ∧ OwnM (fun x : Int => Value.int .i64 x) (RV1 (RSl 1 (RInt .u8))) (Mem.add F w42) b60 v54.early p61) ?_ ?_
              · refine WC.then ?_
                refine WC.region [(0, true)] rfl ?_
                refine WO.assign rfl rfl rfl rfl ?_
                refine WO.done ?_
                refine At.seq_wc ?_
                obtain ⟨xl8, hl8, hk8⟩ := bind_some' hr
                refine WC.weaken (fun a w => ∃ (v135 : S_ref16_Link) (v146 : S_link_Link) (a136 : Option Addr) (c137 : Nat) (p138 : List Chunk) (a141 : Option Addr) (c142 : Nat) (p143 : List Chunk) (a147 : Option Addr) (c148 : Nat) (p149 : List Chunk) (b152 : Nat) (p153 : List Chunk) (w134 : List Chunk), .brk (v135, v146) = xl8 ∧ Ctx 163 [] a ∧ Sat (Mem.add (Mem.add F χ) w134) (p138 :: p143 :: p149 :: p153 :: [(b40, row [.int .i64 v135.Window, .int .i64 v135.Span, .int .i64 v135.Room, .int .i64 v135.Epoch, .int .i64 v135.Next, .int .i64 v135.Acked, .int .i64 v135.Sent, .int .i64 v135.Got, .slice a136 v135.Out.length c137, .slice a141 v135.Early.length c142, .bool v135.Owes] 54)] :: [(b21, row [.int .i64 v146.window, .int .i64 v146.span, .int .i64 v146.room, .int .i64 v146.epoch, .int .i64 v146.now, .int .i64 v146.next, .int .i64 v146.acked, .int .i64 v146.sent, .slice a147 v146.out.length c148, .int .i64 v146.got, .map (some b152), .bool v146.owes] 74)] :: [(b1, row [.int .i64 p0.Window, .int .i64 p0.Span, .int .i64 p0.Room] 23)] :: Φ) w ∧ OwnL 3 R_ref16_Body (Mem.add F w134) 81 a136 c137 v135.Out p138 ∧ OwnL 2 R_ref16_Early (Mem.add F w134) 88 a141 c142 v135.Early p143 ∧ OwnL 3 R_link_body (Mem.add F w134) 79 a147 c148 v146.out p149 ∧ OwnM (fun x : Int => Value.int .i64 x) (RV1 (RSl 1 (RInt .u8))) (Mem.add F w134) b152 v146.early p153) ?_ ?_
                · refine WC.block ?_
                  refine WC.loop (fun ⟨v89, v90, v101⟩ a w => ∃ (a91 : Option Addr) (c92 : Nat) (p93 : List Chunk) (a96 : Option Addr) (c97 : Nat) (p98 : List Chunk) (a102 : Option Addr) (c103 : Nat) (p104 : List Chunk) (b107 : Nat) (p108 : List Chunk) (w88 : List Chunk), Ctx 163 [(1, .slice a_1 p1.length c_1), (2, .pointer (some ⟨b1, 0, none⟩)), (5, .pointer (some ⟨b21, 0, none⟩)), (7, .pointer (some ⟨b40, 0, none⟩)), (8, .int .i64 v89)] a ∧ Sat (Mem.add (Mem.add F χ) w88) (p93 :: p98 :: p104 :: p108 :: [(b40, row [.int .i64 v90.Window, .int .i64 v90.Span, .int .i64 v90.Room, .int .i64 v90.Epoch, .int .i64 v90.Next, .int .i64 v90.Acked, .int .i64 v90.Sent, .int .i64 v90.Got, .slice a91 v90.Out.length c92, .slice a96 v90.Early.length c97, .bool v90.Owes] 54)] :: [(b21, row [.int .i64 v101.window, .int .i64 v101.span, .int .i64 v101.room, .int .i64 v101.epoch, .int .i64 v101.now, .int .i64 v101.next, .int .i64 v101.acked, .int .i64 v101.sent, .slice a102 v101.out.length c103, .int .i64 v101.got, .map (some b107), .bool v101.owes] 74)] :: [(b1, row [.int .i64 p0.Window, .int .i64 p0.Span, .int .i64 p0.Room] 23)] :: Φ) w ∧ OwnL 3 R_ref16_Body (Mem.add F w88) 81 a91 c92 v90.Out p93 ∧ OwnL 2 R_ref16_Early (Mem.add F w88) 88 a96 c97 v90.Early p98 ∧ OwnL 3 R_link_body (Mem.add F w88) 79 a102 c103 v101.out p104 ∧ OwnM (fun x : Int => Value.int .i64 x) (RV1 (RSl 1 (RInt .u8))) (Mem.add F w88) b107 v101.early p108) hl8 ?_ ?_
                  · refine At.empty ?_
                    have ho357 : OwnL 3 R_ref16_Body F 81 none 0 ([] : List S_ref16_Body) [] := OwnL.nil
                    refine At.empty ?_
                    have ho359 : OwnL 2 R_ref16_Early F 88 none 0 ([] : List S_ref16_Early) [] := OwnL.nil
                    exact fun a w hc hs => ⟨none, 0, [], none, 0, [], a22, c23, p25, b27, p28, (List.flatten []), (hc.keep (hc.keep (hc.keep (hc.keep (hc.keep hc.nil (t := 8) rfl) (t := 7) rfl) (t := 5) rfl) (t := 2) rfl) (t := 1) rfl), ((hs.arrange 1 7 [0] [2, 1, 5, 6, 3, 4, 7] (by decide)).gather 0), (ho357.mono mono_ref16_Body (Mem.le_gather F 0)), (ho359.mono mono_ref16_Early (Mem.le_gather F 0)), (h24.mono mono_link_body (Mem.le_gather F 0)), (hm30.mono (monoV1 (mono_sl (mono_int _))) (Mem.le_gather F 0))⟩
                  · rintro ⟨v89, v90, v101⟩ r8 hr a w ⟨a91, c92, p93, a96, c97, p98, a102, c103, p104, b107, p108, w88, hc, hs, ho94, ho99, ho105, hm109⟩
                    refine WC.use hc hs ?_
                    clear hc hs
                    (try dsimp only at hr)
                    unfold law16_LinkActs_b7 at hr
                    refine WC.then ?_
                    refine WC.then ?_
                    refine WC.region [(0, true), (1, true), (2, true), (3, true)] rfl ?_
                    refine WO.move rfl rfl rfl rfl ?_
                    refine WO.move rfl rfl rfl rfl ?_
                    refine WO.len rfl rfl rfl rfl Try.underlying48 ?_
                    refine WO.bin rfl rfl rfl rfl rfl rfl ?_
                    refine WO.done ?_
                    refine At.seq_wc ?_
                    refine WC.cond rfl (fun hb156 => ?_) (fun hb156 => ?_)
                    · have hr := cond_t hb156 hr
                      refine WC.skip ?_
                      refine At.seq_wc ?_
                      refine WC.then ?_
                      refine WC.block ?_
                      refine WC.then ?_
                      refine WC.region [(0, true), (1, true), (2, true), (3, false), (4, false), (5, false)] rfl ?_
                      refine WO.move rfl rfl rfl rfl ?_
                      refine WO.move rfl rfl rfl rfl ?_
                      obtain ⟨x157, hx158, hr⟩ := bind_some' hr
                      refine WO.indexR h_1 hx158 rfl rfl rfl rfl rfl rfl Try.underlying48 sz_57 ?_
                      rintro b159 o160 _ hc161 ⟨a162, c163, a165, c166, rfl, h164, h167⟩
                      refine WO.loadPAn 0 7 (hc161.mono (Mem.le_pick (Mem.add (Mem.add F χ) w88) 2 [1] (by decide))) rfl rfl rfl rfl rfl ag_57 rfl rfl ?_
                      refine WO.alloc (.agg #[.int .i64 0, .int .i64 0, .slice none 0 0, .int .i64 0, .int .i64 0, .int .i64 0, .slice none 0 0]) rfl rfl rfl zb_57 rfl (fun _ _ _ => trivial) (fun b168 => ?_)
                      refine WO.storeA 0 7 rfl rfl rfl rfl sz_57 rfl rfl rfl rfl (fun _ _ => trivial) ?_
                      refine WO.done ?_
                      refine At.seq_wc ?_
                      refine WC.then ?_
                      refine WC.then ?_
                      refine WC.region [(0, false), (1, false), (2, true)] rfl ?_
                      refine WO.loadA 0 7 rfl rfl rfl rfl ag_57 rfl rfl rfl ?_
                      obtain ⟨x170, hx171, hr⟩ := bind_some' hr
                      refine WO.call rfl rfl rfl rfl rfl cl_12 (CallsRet.lay 2 8 1 [1] [0, 2, 3, 4, 5, 6, 7, 8, 9] (by decide) (Mem.add F (List.flatten [χ])) (w88 :: [(b168, row [.int .i64 x157.Kind, .int .i64 x157.N, .slice a162 x157.Bodies.length c163, .int .i64 x157.S.Epoch, .int .i64 x157.S.Seq, .int .i64 x157.S.Ack, .slice a165 x157.S.Body.length c166] 57)] :: p93 :: p98 :: p104 :: p108 :: [(b40, row [.int .i64 v90.Window, .int .i64 v90.Span, .int .i64 v90.Room, .int .i64 v90.Epoch, .int .i64 v90.Next, .int .i64 v90.Acked, .int .i64 v90.Sent, .int .i64 v90.Got, .slice a91 v90.Out.length c92, .slice a96 v90.Early.length c97, .bool v90.Owes] 54)] :: [(b21, row [.int .i64 v101.window, .int .i64 v101.span, .int .i64 v101.room, .int .i64 v101.epoch, .int .i64 v101.now, .int .i64 v101.next, .int .i64 v101.acked, .int .i64 v101.sent, .slice a102 v101.out.length c103, .int .i64 v101.got, .map (some b107), .bool v101.owes] 74)] :: [(b1, row [.int .i64 p0.Window, .int .i64 p0.Span, .int .i64 p0.Room] 23)] :: Φ) rfl rfl (law16_Act_small_ok (F := F) (χ := (List.flatten [χ])) ⟨_, _, _, _, rfl, (h164.mono (mono_sl (mono_int _)) (Mem.le_gather (Mem.add F χ) 1)), (h167.mono (mono_int _) (Mem.le_gather (Mem.add F χ) 1))⟩ hx171 (w88 :: [(b168, row [.int .i64 x157.Kind, .int .i64 x157.N, .slice a162 x157.Bodies.length c163, .int .i64 x157.S.Epoch, .int .i64 x157.S.Seq, .int .i64 x157.S.Ack, .slice a165 x157.S.Body.length c166] 57)] :: p93 :: p98 :: p104 :: p108 :: [(b40, row [.int .i64 v90.Window, .int .i64 v90.Span, .int .i64 v90.Room, .int .i64 v90.Epoch, .int .i64 v90.Next, .int .i64 v90.Acked, .int .i64 v90.Sent, .int .i64 v90.Got, .slice a91 v90.Out.length c92, .slice a96 v90.Early.length c97, .bool v90.Owes] 54)] :: [(b21, row [.int .i64 v101.window, .int .i64 v101.span, .int .i64 v101.room, .int .i64 v101.epoch, .int .i64 v101.now, .int .i64 v101.next, .int .i64 v101.acked, .int .i64 v101.sent, .slice a102 v101.out.length c103, .int .i64 v101.got, .map (some b107), .bool v101.owes] 74)] :: [(b1, row [.int .i64 p0.Window, .int .i64 p0.Span, .int .i64 p0.Room] 23)] :: Φ))) ?_
                      rintro _ _ ⟨rfl, hs172⟩
                      have hs172 := Sat.unlay F [χ] hs172
                      have hs172 := (hs172.arrange 1 9 [1, 0] [2, 3, 4, 5, 6, 7, 8, 9] (by decide))
                      refine ⟨(Mem.add (Mem.add F χ) w88), ([(b168, row [.int .i64 x157.Kind, .int .i64 x157.N, .slice a162 x157.Bodies.length c163, .int .i64 x157.S.Epoch, .int .i64 x157.S.Seq, .int .i64 x157.S.Ack, .slice a165 x157.S.Body.length c166] 57)] :: p93 :: p98 :: p104 :: p108 :: [(b40, row [.int .i64 v90.Window, .int .i64 v90.Span, .int .i64 v90.Room, .int .i64 v90.Epoch, .int .i64 v90.Next, .int .i64 v90.Acked, .int .i64 v90.Sent, .int .i64 v90.Got, .slice a91 v90.Out.length c92, .slice a96 v90.Early.length c97, .bool v90.Owes] 54)] :: [(b21, row [.int .i64 v101.window, .int .i64 v101.span, .int .i64 v101.room, .int .i64 v101.epoch, .int .i64 v101.now, .int .i64 v101.next, .int .i64 v101.acked, .int .i64 v101.sent, .slice a102 v101.out.length c103, .int .i64 v101.got, .map (some b107), .bool v101.owes] 74)] :: [(b1, row [.int .i64 p0.Window, .int .i64 p0.Span, .int .i64 p0.Room] 23)] :: Φ), hs172, trivial, ?_⟩
                      refine WO.un rfl rfl rfl rfl rfl ?_
                      refine WO.done ?_
                      refine At.seq_wc ?_
                      refine WC.cond rfl (fun hb173 => ?_) (fun hb173 => ?_)
                      · have hr := cond_t hb173 hr
                        refine WC.then ?_
                        refine WC.region [(0, true)] rfl ?_
                        refine WO.assign rfl rfl rfl rfl ?_
                        refine WO.done ?_
                        refine At.seq_wc ?_
                        refine WC.ret ?_
                        refine At.seq_ret ?_
                        refine At.block_ret ?_
                        refine At.seq_ret ?_
                        refine At.round_ret hr (fun hy => ?_)
                        subst hy
                        have hr := hk8
                        refine At.block_ret ?_
                        refine At.seq_ret ?_
                        refine At.seq_ret ?_
                        obtain rfl := Option.some.inj hr
                        exact At.ret (fun a w hc hs => (resVs_cons (hc.res rfl) resVs_nil)) (fun w hs => ⟨rfl, (hs.arrange 2 8 [1] [] (by decide))⟩)
                      · have hr := cond_f hb173 hr
                        refine WC.skip ?_
                        refine At.seq_wc ?_
                        refine WC.seq (fun a w => ∃ (v175 : S_ref16_Link) (v186 : S_link_Link) (a176 : Option Addr) (c177 : Nat) (p178 : List Chunk) (a181 : Option Addr) (c182 : Nat) (p183 : List Chunk) (a187 : Option Addr) (c188 : Nat) (p189 : List Chunk) (b192 : Nat) (p193 : List Chunk) (w174 : List Chunk), law16_LinkActs_k9 p0 v89 v175 v186 = some r8 ∧ Ctx 163 [(1, .slice a_1 p1.length c_1), (2, .pointer (some ⟨b1, 0, none⟩)), (5, .pointer (some ⟨b21, 0, none⟩)), (7, .pointer (some ⟨b40, 0, none⟩)), (8, .int .i64 v89)] a ∧ Sat (Mem.add (Mem.add (Mem.add F χ) w88) w174) (p178 :: p183 :: p189 :: p193 :: [(b168, row [.int .i64 x157.Kind, .int .i64 x157.N, .slice a162 x157.Bodies.length c163, .int .i64 x157.S.Epoch, .int .i64 x157.S.Seq, .int .i64 x157.S.Ack, .slice a165 x157.S.Body.length c166] 57)] :: [(b40, row [.int .i64 v175.Window, .int .i64 v175.Span, .int .i64 v175.Room, .int .i64 v175.Epoch, .int .i64 v175.Next, .int .i64 v175.Acked, .int .i64 v175.Sent, .int .i64 v175.Got, .slice a176 v175.Out.length c177, .slice a181 v175.Early.length c182, .bool v175.Owes] 54)] :: [(b21, row [.int .i64 v186.window, .int .i64 v186.span, .int .i64 v186.room, .int .i64 v186.epoch, .int .i64 v186.now, .int .i64 v186.next, .int .i64 v186.acked, .int .i64 v186.sent, .slice a187 v186.out.length c188, .int .i64 v186.got, .map (some b192), .bool v186.owes] 74)] :: [(b1, row [.int .i64 p0.Window, .int .i64 p0.Span, .int .i64 p0.Room] 23)] :: Φ) w ∧ OwnL 3 R_ref16_Body (Mem.add (Mem.add F w88) w174) 81 a176 c177 v175.Out p178 ∧ OwnL 2 R_ref16_Early (Mem.add (Mem.add F w88) w174) 88 a181 c182 v175.Early p183 ∧ OwnL 3 R_link_body (Mem.add (Mem.add F w88) w174) 79 a187 c188 v186.out p189 ∧ OwnM (fun x : Int => Value.int .i64 x) (RV1 (RSl 1 (RInt .u8))) (Mem.add (Mem.add F w88) w174) b192 v186.early p193) ?_ ?_
                        · refine WC.then ?_
                          refine WC.region [(0, true), (1, false)] rfl ?_
                          refine WO.fieldAddr 0 rfl rfl rfl rfl fl_57_0 ?_
                          refine WO.load 0 rfl rfl rfl rfl sc_3 rfl rfl ?_
                          refine WO.done ?_
                          refine At.seq_wc ?_
                          refine WC.block ?_
                          refine WC.then ?_
                          refine WC.region [(0, true), (1, true)] rfl ?_
                          refine WO.bin rfl rfl rfl rfl rfl rfl ?_
                          refine WO.assign rfl rfl rfl rfl ?_
                          refine WO.done ?_
                          refine At.seq_wc ?_
                          refine WC.cond rfl (fun hb214 => ?_) (fun hb214 => ?_)
                          · have hr := cond_t hb214 hr
                            refine WC.then ?_
                            refine WC.draw (Sat (Mem.add (Mem.add F χ) w88) ([(b168, row [.int .i64 x157.Kind, .int .i64 x157.N, .slice a162 x157.Bodies.length c163, .int .i64 x157.S.Epoch, .int .i64 x157.S.Seq, .int .i64 x157.S.Ack, .slice a165 x157.S.Body.length c166] 57)] :: [(b1, row [.int .i64 p0.Window, .int .i64 p0.Span, .int .i64 p0.Room] 23)] :: Φ)) (fun _ h => (h.arrange 2 8 [0, 1] [2, 9] (by decide))) [(0, true), (1, true), (2, true), (4, true), (5, true), (6, true), (3, false), (7, false), (8, true)] mixed (by kernel_rfl) rfl (by kernel_rfl) ?_
                            refine WO.move rfl rfl rfl rfl ?_
                            refine WO.fieldAddr 2 rfl rfl rfl rfl fl_57_2 ?_
                            refine WO.loadY 0 rfl rfl rfl rfl sc_55 rfl rfl ?_
                            refine WO.move rfl rfl rfl rfl ?_
                            refine WO.fieldAddr 2 rfl rfl rfl rfl fl_57_2 ?_
                            refine WO.loadY 0 rfl rfl rfl rfl sc_55 rfl rfl ?_
                            obtain ⟨x215, hx216, hr⟩ := bind_some' hr
                            refine WO.call rfl rfl rfl rfl rfl cl_13 (CallsRet.lay 2 8 1 [1, 0] [8, 5, 6, 2, 3, 4, 7, 9] (by decide) (Mem.add (Mem.add F w88) (List.flatten [χ])) ([(b21, row [.int .i64 v101.window, .int .i64 v101.span, .int .i64 v101.room, .int .i64 v101.epoch, .int .i64 v101.now, .int .i64 v101.next, .int .i64 v101.acked, .int .i64 v101.sent, .slice a102 v101.out.length c103, .int .i64 v101.got, .map (some b107), .bool v101.owes] 74)] :: p104 :: p108 :: [(b168, row [.int .i64 x157.Kind, .int .i64 x157.N, .slice a162 x157.Bodies.length c163, .int .i64 x157.S.Epoch, .int .i64 x157.S.Seq, .int .i64 x157.S.Ack, .slice a165 x157.S.Body.length c166] 57)] :: p93 :: p98 :: [(b40, row [.int .i64 v90.Window, .int .i64 v90.Span, .int .i64 v90.Room, .int .i64 v90.Epoch, .int .i64 v90.Next, .int .i64 v90.Acked, .int .i64 v90.Sent, .int .i64 v90.Got, .slice a91 v90.Out.length c92, .slice a96 v90.Early.length c97, .bool v90.Owes] 54)] :: [(b1, row [.int .i64 p0.Window, .int .i64 p0.Span, .int .i64 p0.Room] 23)] :: Φ) rfl rfl (link_Link_Send_vvvvvvvvovmv_ok (F := (Mem.add F w88)) (χ := (List.flatten [χ])) ho105 hm109 (h164.mono (mono_sl (mono_int _)) (Mem.le.trans (Mem.le_pick (Mem.add (Mem.add F w88) χ) 2 [0] (by decide)) (Mem.le_gather (Mem.add (Mem.add F w88) χ) 1))) hx216 ([(b168, row [.int .i64 x157.Kind, .int .i64 x157.N, .slice a162 x157.Bodies.length c163, .int .i64 x157.S.Epoch, .int .i64 x157.S.Seq, .int .i64 x157.S.Ack, .slice a165 x157.S.Body.length c166] 57)] :: p93 :: p98 :: [(b40, row [.int .i64 v90.Window, .int .i64 v90.Span, .int .i64 v90.Room, .int .i64 v90.Epoch, .int .i64 v90.Next, .int .i64 v90.Acked, .int .i64 v90.Sent, .int .i64 v90.Got, .slice a91 v90.Out.length c92, .slice a96 v90.Early.length c97, .bool v90.Owes] 54)] :: [(b1, row [.int .i64 p0.Window, .int .i64 p0.Span, .int .i64 p0.Room] 23)] :: Φ))) ?_
                            rintro _ _ ⟨q217, a218, c219, p221, b223, p224, rfl, hs227, h220, hm226⟩
                            have hs227 := Sat.unlay1 (Mem.add F w88) [χ] _ hs227
                            have hs227 := (hs227.arrange 3 8 [0, 2, 1] [4, 5, 6, 7, 8, 9, 3, 10] (by decide))
                            refine ⟨(Mem.add (Mem.add (Mem.add F χ) w88) q217), (p221 :: p224 :: [(b168, row [.int .i64 x157.Kind, .int .i64 x157.N, .slice a162 x157.Bodies.length c163, .int .i64 x157.S.Epoch, .int .i64 x157.S.Seq, .int .i64 x157.S.Ack, .slice a165 x157.S.Body.length c166] 57)] :: p93 :: p98 :: [(b40, row [.int .i64 v90.Window, .int .i64 v90.Span, .int .i64 v90.Room, .int .i64 v90.Epoch, .int .i64 v90.Next, .int .i64 v90.Acked, .int .i64 v90.Sent, .int .i64 v90.Got, .slice a91 v90.Out.length c92, .slice a96 v90.Early.length c97, .bool v90.Owes] 54)] :: [(b21, row [.int .i64 x215.2.window, .int .i64 x215.2.span, .int .i64 x215.2.room, .int .i64 x215.2.epoch, .int .i64 x215.2.now, .int .i64 x215.2.next, .int .i64 x215.2.acked, .int .i64 x215.2.sent, .slice a218 x215.2.out.length c219, .int .i64 x215.2.got, .map (some b223), .bool x215.2.owes] 74)] :: [(b1, row [.int .i64 p0.Window, .int .i64 p0.Span, .int .i64 p0.Room] 23)] :: Φ), hs227, (hs227.arrange 3 8 [1, 2] [5, 10] (by decide)), ?_⟩
                            obtain ⟨x228, hx229, hr⟩ := bind_some' hr
                            refine WO.call rfl rfl rfl rfl rfl cl_14 (CallsRet.lay 3 8 1 [2, 1] [8, 6, 7, 0, 3, 4, 5, 9, 10] (by decide) (Mem.add (Mem.add F w88) (List.flatten [χ])) ([(b40, row [.int .i64 v90.Window, .int .i64 v90.Span, .int .i64 v90.Room, .int .i64 v90.Epoch, .int .i64 v90.Next, .int .i64 v90.Acked, .int .i64 v90.Sent, .int .i64 v90.Got, .slice a91 v90.Out.length c92, .slice a96 v90.Early.length c97, .bool v90.Owes] 54)] :: p93 :: p98 :: q217 :: p221 :: p224 :: [(b168, row [.int .i64 x157.Kind, .int .i64 x157.N, .slice a162 x157.Bodies.length c163, .int .i64 x157.S.Epoch, .int .i64 x157.S.Seq, .int .i64 x157.S.Ack, .slice a165 x157.S.Body.length c166] 57)] :: [(b21, row [.int .i64 x215.2.window, .int .i64 x215.2.span, .int .i64 x215.2.room, .int .i64 x215.2.epoch, .int .i64 x215.2.now, .int .i64 x215.2.next, .int .i64 x215.2.acked, .int .i64 x215.2.sent, .slice a218 x215.2.out.length c219, .int .i64 x215.2.got, .map (some b223), .bool x215.2.owes] 74)] :: [(b1, row [.int .i64 p0.Window, .int .i64 p0.Span, .int .i64 p0.Room] 23)] :: Φ) rfl rfl (ref16_Link_Send_vvvvvvvvoov_ok (F := (Mem.add F w88)) (χ := (List.flatten [χ])) ho94 ho99 (h164.mono (mono_sl (mono_int _)) (Mem.le.trans (Mem.le_pick (Mem.add (Mem.add F w88) χ) 2 [0] (by decide)) (Mem.le_gather (Mem.add (Mem.add F w88) χ) 1))) hx229 (q217 :: p221 :: p224 :: [(b168, row [.int .i64 x157.Kind, .int .i64 x157.N, .slice a162 x157.Bodies.length c163, .int .i64 x157.S.Epoch, .int .i64 x157.S.Seq, .int .i64 x157.S.Ack, .slice a165 x157.S.Body.length c166] 57)] :: [(b21, row [.int .i64 x215.2.window, .int .i64 x215.2.span, .int .i64 x215.2.room, .int .i64 x215.2.epoch, .int .i64 x215.2.now, .int .i64 x215.2.next, .int .i64 x215.2.acked, .int .i64 x215.2.sent, .slice a218 x215.2.out.length c219, .int .i64 x215.2.got, .map (some b223), .bool x215.2.owes] 74)] :: [(b1, row [.int .i64 p0.Window, .int .i64 p0.Span, .int .i64 p0.Room] 23)] :: Φ))) ?_
                            rintro _ _ ⟨q230, a231, c232, p234, a236, c237, p239, rfl, hs241, h233, h238⟩
                            have hs241 := Sat.unlay1 (Mem.add F w88) [χ] _ hs241
                            have hs241 := (hs241.arrange 3 9 [0, 6, 2, 1] [4, 5, 7, 8, 9, 3, 10, 11] (by decide))
                            refine ⟨(Mem.add (Mem.add (Mem.add (Mem.add F χ) w88) q217) q230), (p234 :: p239 :: p221 :: p224 :: [(b168, row [.int .i64 x157.Kind, .int .i64 x157.N, .slice a162 x157.Bodies.length c163, .int .i64 x157.S.Epoch, .int .i64 x157.S.Seq, .int .i64 x157.S.Ack, .slice a165 x157.S.Body.length c166] 57)] :: [(b40, row [.int .i64 x228.2.Window, .int .i64 x228.2.Span, .int .i64 x228.2.Room, .int .i64 x228.2.Epoch, .int .i64 x228.2.Next, .int .i64 x228.2.Acked, .int .i64 x228.2.Sent, .int .i64 x228.2.Got, .slice a231 x228.2.Out.length c232, .slice a236 x228.2.Early.length c237, .bool x228.2.Owes] 54)] :: [(b21, row [.int .i64 x215.2.window, .int .i64 x215.2.span, .int .i64 x215.2.room, .int .i64 x215.2.epoch, .int .i64 x215.2.now, .int .i64 x215.2.next, .int .i64 x215.2.acked, .int .i64 x215.2.sent, .slice a218 x215.2.out.length c219, .int .i64 x215.2.got, .map (some b223), .bool x215.2.owes] 74)] :: [(b1, row [.int .i64 p0.Window, .int .i64 p0.Span, .int .i64 p0.Room] 23)] :: Φ), hs241, (hs241.arrange 4 8 [2, 3] [8, 11] (by decide)), ?_⟩
                            refine WO.bin rfl rfl rfl rfl rfl rfl ?_
                            refine WO.done ?_
                            refine At.seq_wc ?_
                            refine WC.cond rfl (fun hb242 => ?_) (fun hb242 => ?_)
                            · have hr := cond_t hb242 hr
                              refine WC.then ?_
                              refine WC.region [(0, true)] rfl ?_
                              refine WO.assign rfl rfl rfl rfl ?_
                              refine WO.done ?_
                              refine At.seq_wc ?_
                              refine WC.ret ?_
                              refine At.block_ret ?_
                              refine At.seq_ret ?_
                              refine At.block_ret ?_
                              refine At.seq_ret ?_
                              refine At.round_ret hr (fun hy => ?_)
                              subst hy
                              have hr := hk8
                              refine At.block_ret ?_
                              refine At.seq_ret ?_
                              refine At.seq_ret ?_
                              obtain rfl := Option.some.inj hr
                              exact At.ret (fun a w hc hs => (resVs_cons (hc.res rfl) resVs_nil)) (fun w hs => ⟨rfl, (hs.arrange 4 8 [3] [] (by decide))⟩)
                            · have hr := cond_f hb242 hr
                              refine WC.skip ?_
                              refine At.block_normal ?_
                              refine At.seq_at ?_
                              exact fun a w hc hs => ⟨x228.2, x215.2, a231, c232, p234, a236, c237, p239, a218, c219, p221, b223, p224, (List.flatten [q230, q217]), hr, (hc.keep (hc.keep (hc.keep (hc.keep (hc.keep hc.nil (t := 8) rfl) (t := 7) rfl) (t := 5) rfl) (t := 2) rfl) (t := 1) rfl), (hs.gather 2), (h233.mono mono_ref16_Body (Mem.le.trans (Mem.le_pick (Mem.add (Mem.add (Mem.add F w88) q217) q230) 3 [0, 2] (by decide)) (Mem.le_gather (Mem.add (Mem.add (Mem.add F w88) q217) q230) 2))), (h238.mono mono_ref16_Early (Mem.le.trans (Mem.le_pick (Mem.add (Mem.add (Mem.add F w88) q217) q230) 3 [0, 2] (by decide)) (Mem.le_gather (Mem.add (Mem.add (Mem.add F w88) q217) q230) 2))), (h220.mono mono_link_body (Mem.le.trans (Mem.le_pick (Mem.add (Mem.add (Mem.add F w88) q217) q230) 3 [1, 2] (by decide)) (Mem.le_gather (Mem.add (Mem.add (Mem.add F w88) q217) q230) 2))), (hm226.mono (monoV1 (mono_sl (mono_int _))) (Mem.le.trans (Mem.le_pick (Mem.add (Mem.add (Mem.add F w88) q217) q230) 3 [1, 2] (by decide)) (Mem.le_gather (Mem.add (Mem.add (Mem.add F w88) q217) q230) 2)))⟩
                          · have hr := cond_f hb214 hr
                            refine WC.then ?_
                            refine WC.region [(0, true), (1, true)] rfl ?_
                            refine WO.bin rfl rfl rfl rfl rfl rfl ?_
                            refine WO.assign rfl rfl rfl rfl ?_
                            refine WO.done ?_
                            refine At.seq_wc ?_
                            refine WC.cond rfl (fun hb243 => ?_) (fun hb243 => ?_)
                            · have hr := cond_t hb243 hr
                              refine WC.then ?_
                              refine WC.region [(0, true), (1, false), (2, true), (3, false), (4, false), (5, true)] rfl ?_
                              refine WO.move rfl rfl rfl rfl ?_
                              obtain ⟨x244, hx245, hr⟩ := bind_some' hr
                              refine WO.call rfl rfl rfl rfl rfl cl_16 (CallsRet.lay0 2 8 [0] [8, 5, 6, 1, 2, 3, 4, 7, 9] (by decide) (Mem.add F w88) ([(b21, row [.int .i64 v101.window, .int .i64 v101.span, .int .i64 v101.room, .int .i64 v101.epoch, .int .i64 v101.now, .int .i64 v101.next, .int .i64 v101.acked, .int .i64 v101.sent, .slice a102 v101.out.length c103, .int .i64 v101.got, .map (some b107), .bool v101.owes] 74)] :: p104 :: p108 :: χ :: [(b168, row [.int .i64 x157.Kind, .int .i64 x157.N, .slice a162 x157.Bodies.length c163, .int .i64 x157.S.Epoch, .int .i64 x157.S.Seq, .int .i64 x157.S.Ack, .slice a165 x157.S.Body.length c166] 57)] :: p93 :: p98 :: [(b40, row [.int .i64 v90.Window, .int .i64 v90.Span, .int .i64 v90.Room, .int .i64 v90.Epoch, .int .i64 v90.Next, .int .i64 v90.Acked, .int .i64 v90.Sent, .int .i64 v90.Got, .slice a91 v90.Out.length c92, .slice a96 v90.Early.length c97, .bool v90.Owes] 54)] :: [(b1, row [.int .i64 p0.Window, .int .i64 p0.Span, .int .i64 p0.Room] 23)] :: Φ) rfl rfl (link_Link_Tick_vvvvvvvvovmv_ok (F := (Mem.add F w88)) ho105 hm109 hx245 (χ :: [(b168, row [.int .i64 x157.Kind, .int .i64 x157.N, .slice a162 x157.Bodies.length c163, .int .i64 x157.S.Epoch, .int .i64 x157.S.Seq, .int .i64 x157.S.Ack, .slice a165 x157.S.Body.length c166] 57)] :: p93 :: p98 :: [(b40, row [.int .i64 v90.Window, .int .i64 v90.Span, .int .i64 v90.Room, .int .i64 v90.Epoch, .int .i64 v90.Next, .int .i64 v90.Acked, .int .i64 v90.Sent, .int .i64 v90.Got, .slice a91 v90.Out.length c92, .slice a96 v90.Early.length c97, .bool v90.Owes] 54)] :: [(b1, row [.int .i64 p0.Window, .int .i64 p0.Span, .int .i64 p0.Room] 23)] :: Φ))) ?_
                              rintro _ _ ⟨q246, a247, c248, p250, a252, c253, p255, b257, p258, rfl, hs261, h249, h254, hm260⟩
                              have hs261 := (hs261.arrange 2 10 [0, 1, 6] [2, 4, 5, 7, 8, 9, 10, 3, 11] (by decide))
                              refine ⟨(Mem.add (Mem.add (Mem.add F χ) w88) q246), (p250 :: p255 :: p258 :: [(b168, row [.int .i64 x157.Kind, .int .i64 x157.N, .slice a162 x157.Bodies.length c163, .int .i64 x157.S.Epoch, .int .i64 x157.S.Seq, .int .i64 x157.S.Ack, .slice a165 x157.S.Body.length c166] 57)] :: p93 :: p98 :: [(b40, row [.int .i64 v90.Window, .int .i64 v90.Span, .int .i64 v90.Room, .int .i64 v90.Epoch, .int .i64 v90.Next, .int .i64 v90.Acked, .int .i64 v90.Sent, .int .i64 v90.Got, .slice a91 v90.Out.length c92, .slice a96 v90.Early.length c97, .bool v90.Owes] 54)] :: [(b21, row [.int .i64 x244.2.window, .int .i64 x244.2.span, .int .i64 x244.2.room, .int .i64 x244.2.epoch, .int .i64 x244.2.now, .int .i64 x244.2.next, .int .i64 x244.2.acked, .int .i64 x244.2.sent, .slice a252 x244.2.out.length c253, .int .i64 x244.2.got, .map (some b257), .bool x244.2.owes] 74)] :: [(b1, row [.int .i64 p0.Window, .int .i64 p0.Span, .int .i64 p0.Room] 23)] :: Φ), hs261, trivial, ?_⟩
                              refine WO.move rfl rfl rfl rfl ?_
                              obtain ⟨x262, hx263, hr⟩ := bind_some' hr
                              refine WO.call rfl rfl rfl rfl rfl cl_17 (CallsRet.lay0 3 9 [1] [9, 7, 8, 0, 2, 3, 4, 5, 6, 10, 11] (by decide) (Mem.add F w88) ([(b40, row [.int .i64 v90.Window, .int .i64 v90.Span, .int .i64 v90.Room, .int .i64 v90.Epoch, .int .i64 v90.Next, .int .i64 v90.Acked, .int .i64 v90.Sent, .int .i64 v90.Got, .slice a91 v90.Out.length c92, .slice a96 v90.Early.length c97, .bool v90.Owes] 54)] :: p93 :: p98 :: q246 :: χ :: p250 :: p255 :: p258 :: [(b168, row [.int .i64 x157.Kind, .int .i64 x157.N, .slice a162 x157.Bodies.length c163, .int .i64 x157.S.Epoch, .int .i64 x157.S.Seq, .int .i64 x157.S.Ack, .slice a165 x157.S.Body.length c166] 57)] :: [(b21, row [.int .i64 x244.2.window, .int .i64 x244.2.span, .int .i64 x244.2.room, .int .i64 x244.2.epoch, .int .i64 x244.2.now, .int .i64 x244.2.next, .int .i64 x244.2.acked, .int .i64 x244.2.sent, .slice a252 x244.2.out.length c253, .int .i64 x244.2.got, .map (some b257), .bool x244.2.owes] 74)] :: [(b1, row [.int .i64 p0.Window, .int .i64 p0.Span, .int .i64 p0.Room] 23)] :: Φ) rfl rfl (ref16_Link_Tick_vvvvvvvvoov_ok (F := (Mem.add F w88)) ho94 ho99 hx263 (q246 :: χ :: p250 :: p255 :: p258 :: [(b168, row [.int .i64 x157.Kind, .int .i64 x157.N, .slice a162 x157.Bodies.length c163, .int .i64 x157.S.Epoch, .int .i64 x157.S.Seq, .int .i64 x157.S.Ack, .slice a165 x157.S.Body.length c166] 57)] :: [(b21, row [.int .i64 x244.2.window, .int .i64 x244.2.span, .int .i64 x244.2.room, .int .i64 x244.2.epoch, .int .i64 x244.2.now, .int .i64 x244.2.next, .int .i64 x244.2.acked, .int .i64 x244.2.sent, .slice a252 x244.2.out.length c253, .int .i64 x244.2.got, .map (some b257), .bool x244.2.owes] 74)] :: [(b1, row [.int .i64 p0.Window, .int .i64 p0.Span, .int .i64 p0.Room] 23)] :: Φ))) ?_
                              rintro _ _ ⟨a264, c265, p267, a269, c270, p272, a274, c275, p277, rfl, hs279, h266, h271, h276⟩
                              have hs279 := (hs279.arrange 1 12 [5, 0, 6] [1, 3, 4, 7, 8, 9, 10, 2, 11, 12] (by decide))
                              refine ⟨(Mem.add (Mem.add (Mem.add F χ) w88) q246), (p267 :: p272 :: p277 :: p250 :: p255 :: p258 :: [(b168, row [.int .i64 x157.Kind, .int .i64 x157.N, .slice a162 x157.Bodies.length c163, .int .i64 x157.S.Epoch, .int .i64 x157.S.Seq, .int .i64 x157.S.Ack, .slice a165 x157.S.Body.length c166] 57)] :: [(b40, row [.int .i64 x262.2.Window, .int .i64 x262.2.Span, .int .i64 x262.2.Room, .int .i64 x262.2.Epoch, .int .i64 x262.2.Next, .int .i64 x262.2.Acked, .int .i64 x262.2.Sent, .int .i64 x262.2.Got, .slice a269 x262.2.Out.length c270, .slice a274 x262.2.Early.length c275, .bool x262.2.Owes] 54)] :: [(b21, row [.int .i64 x244.2.window, .int .i64 x244.2.span, .int .i64 x244.2.room, .int .i64 x244.2.epoch, .int .i64 x244.2.now, .int .i64 x244.2.next, .int .i64 x244.2.acked, .int .i64 x244.2.sent, .slice a252 x244.2.out.length c253, .int .i64 x244.2.got, .map (some b257), .bool x244.2.owes] 74)] :: [(b1, row [.int .i64 p0.Window, .int .i64 p0.Span, .int .i64 p0.Room] 23)] :: Φ), hs279, trivial, ?_⟩
                              obtain ⟨x280, hx281, hr⟩ := bind_some' hr
                              refine WO.call rfl rfl rfl rfl rfl cl_15 (CallsRet.lay 3 10 4 [3, 6, 0, 1] [2, 4, 5, 7, 8, 9, 10, 11, 12] (by decide) (Mem.add F (List.flatten [p267, p250, q246, w88])) (χ :: p272 :: p277 :: p255 :: p258 :: [(b168, row [.int .i64 x157.Kind, .int .i64 x157.N, .slice a162 x157.Bodies.length c163, .int .i64 x157.S.Epoch, .int .i64 x157.S.Seq, .int .i64 x157.S.Ack, .slice a165 x157.S.Body.length c166] 57)] :: [(b40, row [.int .i64 x262.2.Window, .int .i64 x262.2.Span, .int .i64 x262.2.Room, .int .i64 x262.2.Epoch, .int .i64 x262.2.Next, .int .i64 x262.2.Acked, .int .i64 x262.2.Sent, .int .i64 x262.2.Got, .slice a269 x262.2.Out.length c270, .slice a274 x262.2.Early.length c275, .bool x262.2.Owes] 54)] :: [(b21, row [.int .i64 x244.2.window, .int .i64 x244.2.span, .int .i64 x244.2.room, .int .i64 x244.2.epoch, .int .i64 x244.2.now, .int .i64 x244.2.next, .int .i64 x244.2.acked, .int .i64 x244.2.sent, .slice a252 x244.2.out.length c253, .int .i64 x244.2.got, .map (some b257), .bool x244.2.owes] 74)] :: [(b1, row [.int .i64 p0.Window, .int .i64 p0.Span, .int .i64 p0.Room] 23)] :: Φ) rfl rfl (law16_segs_ok (F := F) (χ := (List.flatten [p267, p250, q246, w88])) ((h249.rd mono_api_Seg).mono mono_api_Seg (Mem.le.trans (Mem.le_pick (Mem.add (Mem.add (Mem.add (Mem.add F w88) q246) p250) p267) 4 [1, 2, 3] (by decide)) (Mem.le_gather (Mem.add (Mem.add (Mem.add (Mem.add F w88) q246) p250) p267) 4))) ((h266.rd mono_api_Seg).mono mono_api_Seg (Mem.le.trans (Mem.le_pick (Mem.add (Mem.add (Mem.add (Mem.add F w88) q246) p250) p267) 4 [0, 3] (by decide)) (Mem.le_gather (Mem.add (Mem.add (Mem.add (Mem.add F w88) q246) p250) p267) 4))) hx281 (χ :: p272 :: p277 :: p255 :: p258 :: [(b168, row [.int .i64 x157.Kind, .int .i64 x157.N, .slice a162 x157.Bodies.length c163, .int .i64 x157.S.Epoch, .int .i64 x157.S.Seq, .int .i64 x157.S.Ack, .slice a165 x157.S.Body.length c166] 57)] :: [(b40, row [.int .i64 x262.2.Window, .int .i64 x262.2.Span, .int .i64 x262.2.Room, .int .i64 x262.2.Epoch, .int .i64 x262.2.Next, .int .i64 x262.2.Acked, .int .i64 x262.2.Sent, .int .i64 x262.2.Got, .slice a269 x262.2.Out.length c270, .slice a274 x262.2.Early.length c275, .bool x262.2.Owes] 54)] :: [(b21, row [.int .i64 x244.2.window, .int .i64 x244.2.span, .int .i64 x244.2.room, .int .i64 x244.2.epoch, .int .i64 x244.2.now, .int .i64 x244.2.next, .int .i64 x244.2.acked, .int .i64 x244.2.sent, .slice a252 x244.2.out.length c253, .int .i64 x244.2.got, .map (some b257), .bool x244.2.owes] 74)] :: [(b1, row [.int .i64 p0.Window, .int .i64 p0.Span, .int .i64 p0.Room] 23)] :: Φ))) ?_
                              rintro _ _ ⟨rfl, hs282⟩
                              have hs282 := Sat.unlay F [p267, p250, q246, w88] hs282
                              have hs282 := (hs282.arrange 4 9 [2, 3, 4] [0, 5, 6, 1, 7, 8, 9, 10, 11, 12] (by decide))
                              refine ⟨(Mem.add (Mem.add (Mem.add F χ) w88) q246), (p267 :: p272 :: p277 :: p250 :: p255 :: p258 :: [(b168, row [.int .i64 x157.Kind, .int .i64 x157.N, .slice a162 x157.Bodies.length c163, .int .i64 x157.S.Epoch, .int .i64 x157.S.Seq, .int .i64 x157.S.Ack, .slice a165 x157.S.Body.length c166] 57)] :: [(b40, row [.int .i64 x262.2.Window, .int .i64 x262.2.Span, .int .i64 x262.2.Room, .int .i64 x262.2.Epoch, .int .i64 x262.2.Next, .int .i64 x262.2.Acked, .int .i64 x262.2.Sent, .int .i64 x262.2.Got, .slice a269 x262.2.Out.length c270, .slice a274 x262.2.Early.length c275, .bool x262.2.Owes] 54)] :: [(b21, row [.int .i64 x244.2.window, .int .i64 x244.2.span, .int .i64 x244.2.room, .int .i64 x244.2.epoch, .int .i64 x244.2.now, .int .i64 x244.2.next, .int .i64 x244.2.acked, .int .i64 x244.2.sent, .slice a252 x244.2.out.length c253, .int .i64 x244.2.got, .map (some b257), .bool x244.2.owes] 74)] :: [(b1, row [.int .i64 p0.Window, .int .i64 p0.Span, .int .i64 p0.Room] 23)] :: Φ), hs282, trivial, ?_⟩
                              refine WO.un rfl rfl rfl rfl rfl ?_
                              refine WO.done ?_
                              refine At.seq_wc ?_
                              refine WC.cond rfl (fun hb283 => ?_) (fun hb283 => ?_)
                              · have hr := cond_t hb283 hr
                                refine WC.then ?_
                                refine WC.region [(0, true)] rfl ?_
                                refine WO.assign rfl rfl rfl rfl ?_
                                refine WO.done ?_
                                refine At.seq_wc ?_
                                refine WC.ret ?_
                                refine At.block_ret ?_
                                refine At.seq_ret ?_
                                refine At.block_ret ?_
                                refine At.seq_ret ?_
                                refine At.round_ret hr (fun hy => ?_)
                                subst hy
                                have hr := hk8
                                refine At.block_ret ?_
                                refine At.seq_ret ?_
                                refine At.seq_ret ?_
                                obtain rfl := Option.some.inj hr
                                exact At.ret (fun a w hc hs => (resVs_cons (hc.res rfl) resVs_nil)) (fun w hs => ⟨rfl, (hs.arrange 3 10 [2] [] (by decide))⟩)
                              · have hr := cond_f hb283 hr
                                refine WC.skip ?_
                                refine At.block_normal ?_
                                refine At.seq_at ?_
                                exact fun a w hc hs => ⟨x262.2, x244.2, a269, c270, p272, a274, c275, p277, a252, c253, p255, b257, p258, (List.flatten [q246]), hr, (hc.keep (hc.keep (hc.keep (hc.keep (hc.keep hc.nil (t := 8) rfl) (t := 7) rfl) (t := 5) rfl) (t := 2) rfl) (t := 1) rfl), ((hs.arrange 3 10 [0, 1, 2] [4, 5, 7, 8, 9, 10, 11, 12] (by decide)).gather 1), (h271.mono mono_ref16_Body (Mem.le.trans (Mem.le_pick (Mem.add (Mem.add F w88) q246) 2 [1] (by decide)) (Mem.le_gather (Mem.add (Mem.add F w88) q246) 1))), (h276.mono mono_ref16_Early (Mem.le.trans (Mem.le_pick (Mem.add (Mem.add F w88) q246) 2 [1] (by decide)) (Mem.le_gather (Mem.add (Mem.add F w88) q246) 1))), (h254.mono mono_link_body (Mem.le_gather (Mem.add (Mem.add F w88) q246) 1)), (hm260.mono (monoV1 (mono_sl (mono_int _))) (Mem.le_gather (Mem.add (Mem.add F w88) q246) 1))⟩
                            · have hr := cond_f hb243 hr
                              refine WC.then ?_
                              refine WC.region [(0, true), (1, true)] rfl ?_
                              refine WO.bin rfl rfl rfl rfl rfl rfl ?_
                              refine WO.assign rfl rfl rfl rfl ?_
                              refine WO.done ?_
                              refine At.seq_wc ?_
                              refine WC.cond rfl (fun hb284 => ?_) (fun hb284 => ?_)
                              · have hr := cond_t hb284 hr
                                refine WC.then ?_
                                refine WC.region [(0, true), (1, true), (2, false), (3, false), (4, true), (5, true), (6, true), (7, true), (8, true)] rfl ?_
                                refine WO.move rfl rfl rfl rfl ?_
                                refine WO.fieldAddr 3 rfl rfl rfl rfl fl_57_3 ?_
                                refine WO.loadA 0 4 rfl rfl rfl rfl ag_46 rfl rfl rfl ?_
                                obtain ⟨x285, hx286, hr⟩ := bind_some' hr
                                refine WO.call rfl rfl rfl rfl rfl cl_18 (CallsRet.lay 2 8 1 [1, 0] [8, 5, 6, 2, 3, 4, 7, 9] (by decide) (Mem.add (Mem.add F w88) (List.flatten [χ])) ([(b21, row [.int .i64 v101.window, .int .i64 v101.span, .int .i64 v101.room, .int .i64 v101.epoch, .int .i64 v101.now, .int .i64 v101.next, .int .i64 v101.acked, .int .i64 v101.sent, .slice a102 v101.out.length c103, .int .i64 v101.got, .map (some b107), .bool v101.owes] 74)] :: p104 :: p108 :: [(b168, row [.int .i64 x157.Kind, .int .i64 x157.N, .slice a162 x157.Bodies.length c163, .int .i64 x157.S.Epoch, .int .i64 x157.S.Seq, .int .i64 x157.S.Ack, .slice a165 x157.S.Body.length c166] 57)] :: p93 :: p98 :: [(b40, row [.int .i64 v90.Window, .int .i64 v90.Span, .int .i64 v90.Room, .int .i64 v90.Epoch, .int .i64 v90.Next, .int .i64 v90.Acked, .int .i64 v90.Sent, .int .i64 v90.Got, .slice a91 v90.Out.length c92, .slice a96 v90.Early.length c97, .bool v90.Owes] 54)] :: [(b1, row [.int .i64 p0.Window, .int .i64 p0.Span, .int .i64 p0.Room] 23)] :: Φ) rfl rfl (link_Link_Hear_vvvvvvvvovmv_ok (F := (Mem.add F w88)) (χ := (List.flatten [χ])) ho105 hm109 ⟨_, _, rfl, (h167.mono (mono_int _) (Mem.le.trans (Mem.le_pick (Mem.add (Mem.add F w88) χ) 2 [0] (by decide)) (Mem.le_gather (Mem.add (Mem.add F w88) χ) 1)))⟩ hx286 ([(b168, row [.int .i64 x157.Kind, .int .i64 x157.N, .slice a162 x157.Bodies.length c163, .int .i64 x157.S.Epoch, .int .i64 x157.S.Seq, .int .i64 x157.S.Ack, .slice a165 x157.S.Body.length c166] 57)] :: p93 :: p98 :: [(b40, row [.int .i64 v90.Window, .int .i64 v90.Span, .int .i64 v90.Room, .int .i64 v90.Epoch, .int .i64 v90.Next, .int .i64 v90.Acked, .int .i64 v90.Sent, .int .i64 v90.Got, .slice a91 v90.Out.length c92, .slice a96 v90.Early.length c97, .bool v90.Owes] 54)] :: [(b1, row [.int .i64 p0.Window, .int .i64 p0.Span, .int .i64 p0.Room] 23)] :: Φ))) ?_
                                rintro _ _ ⟨q287, a288, c289, p291, a293, c294, p296, b298, p299, rfl, hs302, h290, h295, hm301⟩
                                have hs302 := Sat.unlay1 (Mem.add F w88) [χ] _ hs302
                                have hs302 := (hs302.arrange 3 9 [0, 2, 1] [3, 5, 6, 7, 8, 9, 10, 4, 11] (by decide))
                                refine ⟨(Mem.add (Mem.add (Mem.add F χ) w88) q287), (p291 :: p296 :: p299 :: [(b168, row [.int .i64 x157.Kind, .int .i64 x157.N, .slice a162 x157.Bodies.length c163, .int .i64 x157.S.Epoch, .int .i64 x157.S.Seq, .int .i64 x157.S.Ack, .slice a165 x157.S.Body.length c166] 57)] :: p93 :: p98 :: [(b40, row [.int .i64 v90.Window, .int .i64 v90.Span, .int .i64 v90.Room, .int .i64 v90.Epoch, .int .i64 v90.Next, .int .i64 v90.Acked, .int .i64 v90.Sent, .int .i64 v90.Got, .slice a91 v90.Out.length c92, .slice a96 v90.Early.length c97, .bool v90.Owes] 54)] :: [(b21, row [.int .i64 x285.2.2.window, .int .i64 x285.2.2.span, .int .i64 x285.2.2.room, .int .i64 x285.2.2.epoch, .int .i64 x285.2.2.now, .int .i64 x285.2.2.next, .int .i64 x285.2.2.acked, .int .i64 x285.2.2.sent, .slice a293 x285.2.2.out.length c294, .int .i64 x285.2.2.got, .map (some b298), .bool x285.2.2.owes] 74)] :: [(b1, row [.int .i64 p0.Window, .int .i64 p0.Span, .int .i64 p0.Room] 23)] :: Φ), hs302, trivial, ?_⟩
                                refine WO.move rfl rfl rfl rfl ?_
                                refine WO.extract rfl rfl rfl rfl rfl ?_
                                refine WO.extract rfl rfl rfl rfl rfl ?_
                                refine WO.assign rfl rfl rfl rfl ?_
                                refine WO.assign rfl rfl rfl rfl ?_
                                refine WO.done ?_
                                refine At.seq_wc ?_
                                refine WC.then ?_
                                refine WC.region [(0, true), (1, true), (2, false), (3, false), (4, true), (5, true), (6, true), (7, true), (8, true)] rfl ?_
                                refine WO.move rfl rfl rfl rfl ?_
                                refine WO.fieldAddr 3 rfl rfl rfl rfl fl_57_3 ?_
                                refine WO.loadA 3 4 rfl rfl rfl rfl ag_46 rfl rfl rfl ?_
                                obtain ⟨x303, hx304, hr⟩ := bind_some' hr
                                refine WO.call rfl rfl rfl rfl rfl cl_19 (CallsRet.lay 3 9 1 [2, 1] [9, 7, 8, 0, 3, 4, 5, 6, 10, 11] (by decide) (Mem.add (Mem.add F w88) (List.flatten [χ])) ([(b40, row [.int .i64 v90.Window, .int .i64 v90.Span, .int .i64 v90.Room, .int .i64 v90.Epoch, .int .i64 v90.Next, .int .i64 v90.Acked, .int .i64 v90.Sent, .int .i64 v90.Got, .slice a91 v90.Out.length c92, .slice a96 v90.Early.length c97, .bool v90.Owes] 54)] :: p93 :: p98 :: q287 :: p291 :: p296 :: p299 :: [(b168, row [.int .i64 x157.Kind, .int .i64 x157.N, .slice a162 x157.Bodies.length c163, .int .i64 x157.S.Epoch, .int .i64 x157.S.Seq, .int .i64 x157.S.Ack, .slice a165 x157.S.Body.length c166] 57)] :: [(b21, row [.int .i64 x285.2.2.window, .int .i64 x285.2.2.span, .int .i64 x285.2.2.room, .int .i64 x285.2.2.epoch, .int .i64 x285.2.2.now, .int .i64 x285.2.2.next, .int .i64 x285.2.2.acked, .int .i64 x285.2.2.sent, .slice a293 x285.2.2.out.length c294, .int .i64 x285.2.2.got, .map (some b298), .bool x285.2.2.owes] 74)] :: [(b1, row [.int .i64 p0.Window, .int .i64 p0.Span, .int .i64 p0.Room] 23)] :: Φ) rfl rfl (ref16_Link_Hear_vvvvvvvvoov_ok (F := (Mem.add F w88)) (χ := (List.flatten [χ])) ho94 ho99 ⟨_, _, rfl, (h167.mono (mono_int _) (Mem.le.trans (Mem.le_pick (Mem.add (Mem.add F w88) χ) 2 [0] (by decide)) (Mem.le_gather (Mem.add (Mem.add F w88) χ) 1)))⟩ hx304 (q287 :: p291 :: p296 :: p299 :: [(b168, row [.int .i64 x157.Kind, .int .i64 x157.N, .slice a162 x157.Bodies.length c163, .int .i64 x157.S.Epoch, .int .i64 x157.S.Seq, .int .i64 x157.S.Ack, .slice a165 x157.S.Body.length c166] 57)] :: [(b21, row [.int .i64 x285.2.2.window, .int .i64 x285.2.2.span, .int .i64 x285.2.2.room, .int .i64 x285.2.2.epoch, .int .i64 x285.2.2.now, .int .i64 x285.2.2.next, .int .i64 x285.2.2.acked, .int .i64 x285.2.2.sent, .slice a293 x285.2.2.out.length c294, .int .i64 x285.2.2.got, .map (some b298), .bool x285.2.2.owes] 74)] :: [(b1, row [.int .i64 p0.Window, .int .i64 p0.Span, .int .i64 p0.Room] 23)] :: Φ))) ?_
                                rintro _ _ ⟨q305, a306, c307, p309, a311, c312, p314, a316, c317, p319, rfl, hs321, h308, h313, h318⟩
                                have hs321 := Sat.unlay1 (Mem.add F w88) [χ] _ hs321
                                have hs321 := (hs321.arrange 3 11 [0, 7, 2, 1] [3, 5, 6, 8, 9, 10, 11, 4, 12, 13] (by decide))
                                refine ⟨(Mem.add (Mem.add (Mem.add (Mem.add F χ) w88) q287) q305), (p309 :: p314 :: p319 :: p291 :: p296 :: p299 :: [(b168, row [.int .i64 x157.Kind, .int .i64 x157.N, .slice a162 x157.Bodies.length c163, .int .i64 x157.S.Epoch, .int .i64 x157.S.Seq, .int .i64 x157.S.Ack, .slice a165 x157.S.Body.length c166] 57)] :: [(b40, row [.int .i64 x303.2.2.Window, .int .i64 x303.2.2.Span, .int .i64 x303.2.2.Room, .int .i64 x303.2.2.Epoch, .int .i64 x303.2.2.Next, .int .i64 x303.2.2.Acked, .int .i64 x303.2.2.Sent, .int .i64 x303.2.2.Got, .slice a311 x303.2.2.Out.length c312, .slice a316 x303.2.2.Early.length c317, .bool x303.2.2.Owes] 54)] :: [(b21, row [.int .i64 x285.2.2.window, .int .i64 x285.2.2.span, .int .i64 x285.2.2.room, .int .i64 x285.2.2.epoch, .int .i64 x285.2.2.now, .int .i64 x285.2.2.next, .int .i64 x285.2.2.acked, .int .i64 x285.2.2.sent, .slice a293 x285.2.2.out.length c294, .int .i64 x285.2.2.got, .map (some b298), .bool x285.2.2.owes] 74)] :: [(b1, row [.int .i64 p0.Window, .int .i64 p0.Span, .int .i64 p0.Room] 23)] :: Φ), hs321, trivial, ?_⟩
                                refine WO.move rfl rfl rfl rfl ?_
                                refine WO.extract rfl rfl rfl rfl rfl ?_
                                refine WO.extract rfl rfl rfl rfl rfl ?_
                                refine WO.assign rfl rfl rfl rfl ?_
                                refine WO.assign rfl rfl rfl rfl ?_
                                refine WO.done ?_
                                refine At.seq_wc ?_
                                refine WC.seq (fun a w => ∃ (v323 : Bool), law16_LinkActs_k11 p0 v89 x285 x303 v323 = some r8 ∧ Ctx 163 [(1, .slice a_1 p1.length c_1), (2, .pointer (some ⟨b1, 0, none⟩)), (5, .pointer (some ⟨b21, 0, none⟩)), (7, .pointer (some ⟨b40, 0, none⟩)), (8, .int .i64 v89), (118, .bool v323)] a ∧ Sat (Mem.add (Mem.add (Mem.add (Mem.add F χ) w88) q287) q305) (p309 :: p314 :: p319 :: p291 :: p296 :: p299 :: [(b168, row [.int .i64 x157.Kind, .int .i64 x157.N, .slice a162 x157.Bodies.length c163, .int .i64 x157.S.Epoch, .int .i64 x157.S.Seq, .int .i64 x157.S.Ack, .slice a165 x157.S.Body.length c166] 57)] :: [(b40, row [.int .i64 x303.2.2.Window, .int .i64 x303.2.2.Span, .int .i64 x303.2.2.Room, .int .i64 x303.2.2.Epoch, .int .i64 x303.2.2.Next, .int .i64 x303.2.2.Acked, .int .i64 x303.2.2.Sent, .int .i64 x303.2.2.Got, .slice a311 x303.2.2.Out.length c312, .slice a316 x303.2.2.Early.length c317, .bool x303.2.2.Owes] 54)] :: [(b21, row [.int .i64 x285.2.2.window, .int .i64 x285.2.2.span, .int .i64 x285.2.2.room, .int .i64 x285.2.2.epoch, .int .i64 x285.2.2.now, .int .i64 x285.2.2.next, .int .i64 x285.2.2.acked, .int .i64 x285.2.2.sent, .slice a293 x285.2.2.out.length c294, .int .i64 x285.2.2.got, .map (some b298), .bool x285.2.2.owes] 74)] :: [(b1, row [.int .i64 p0.Window, .int .i64 p0.Span, .int .i64 p0.Room] 23)] :: Φ) w) ?_ ?_
                                · refine WC.region [(0, true), (1, true), (2, true), (3, true), (4, true), (5, true), (6, false), (7, true), (8, true)] rfl ?_
                                  refine WO.move rfl rfl rfl rfl ?_
                                  refine WO.move rfl rfl rfl rfl ?_
                                  refine WO.bin rfl rfl rfl rfl rfl rfl ?_
                                  refine WO.move rfl rfl rfl rfl ?_
                                  refine WO.split (t := 113) rfl (fun hg325 => ?_) (fun hg325 => ?_)
                                  · have hr := cond_t hg325 hr
                                    refine WO.skip rfl rfl rfl rfl ?_
                                    refine WO.skip rfl rfl rfl rfl ?_
                                    refine WO.skipF rfl rfl rfl rfl ?_
                                    refine WO.skip rfl rfl rfl rfl ?_
                                    refine WO.pickT rfl rfl rfl rfl rfl ?_
                                    refine WO.done ?_
                                    refine At.seq_at ?_
                                    exact fun a w hc hs => ⟨true, hr, (hc.keep (hc.keep (hc.keep (hc.keep (hc.keep (hc.keep hc.nil (t := 118) rfl) (t := 8) rfl) (t := 7) rfl) (t := 5) rfl) (t := 2) rfl) (t := 1) rfl), hs⟩
                                  · have hr := cond_f hg325 hr
                                    refine WO.move rfl rfl rfl rfl ?_
                                    refine WO.move rfl rfl rfl rfl ?_
                                    obtain ⟨x326, hx327, hr⟩ := bind_some' hr
                                    refine WO.call rfl rfl rfl rfl rfl cl_20 (CallsRet.lay 4 10 5 [4, 7, 0, 1, 2] [3, 5, 6, 8, 9, 10, 11, 12, 13] (by decide) (Mem.add F (List.flatten [p309, p291, q305, q287, w88])) (χ :: p314 :: p319 :: p296 :: p299 :: [(b168, row [.int .i64 x157.Kind, .int .i64 x157.N, .slice a162 x157.Bodies.length c163, .int .i64 x157.S.Epoch, .int .i64 x157.S.Seq, .int .i64 x157.S.Ack, .slice a165 x157.S.Body.length c166] 57)] :: [(b40, row [.int .i64 x303.2.2.Window, .int .i64 x303.2.2.Span, .int .i64 x303.2.2.Room, .int .i64 x303.2.2.Epoch, .int .i64 x303.2.2.Next, .int .i64 x303.2.2.Acked, .int .i64 x303.2.2.Sent, .int .i64 x303.2.2.Got, .slice a311 x303.2.2.Out.length c312, .slice a316 x303.2.2.Early.length c317, .bool x303.2.2.Owes] 54)] :: [(b21, row [.int .i64 x285.2.2.window, .int .i64 x285.2.2.span, .int .i64 x285.2.2.room, .int .i64 x285.2.2.epoch, .int .i64 x285.2.2.now, .int .i64 x285.2.2.next, .int .i64 x285.2.2.acked, .int .i64 x285.2.2.sent, .slice a293 x285.2.2.out.length c294, .int .i64 x285.2.2.got, .map (some b298), .bool x285.2.2.owes] 74)] :: [(b1, row [.int .i64 p0.Window, .int .i64 p0.Span, .int .i64 p0.Room] 23)] :: Φ) rfl rfl (law16_bodies_ok (F := F) (χ := (List.flatten [p309, p291, q305, q287, w88])) ((h290.rd (mono_sl (mono_int _))).mono (mono_sl (mono_int _)) (Mem.le.trans (Mem.le_pick (Mem.add (Mem.add (Mem.add (Mem.add (Mem.add F w88) q287) q305) p291) p309) 5 [1, 3, 4] (by decide)) (Mem.le_gather (Mem.add (Mem.add (Mem.add (Mem.add (Mem.add F w88) q287) q305) p291) p309) 5))) ((h308.rd (mono_sl (mono_int _))).mono (mono_sl (mono_int _)) (Mem.le.trans (Mem.le_pick (Mem.add (Mem.add (Mem.add (Mem.add (Mem.add F w88) q287) q305) p291) p309) 5 [0, 2, 4] (by decide)) (Mem.le_gather (Mem.add (Mem.add (Mem.add (Mem.add (Mem.add F w88) q287) q305) p291) p309) 5))) hx327 (χ :: p314 :: p319 :: p296 :: p299 :: [(b168, row [.int .i64 x157.Kind, .int .i64 x157.N, .slice a162 x157.Bodies.length c163, .int .i64 x157.S.Epoch, .int .i64 x157.S.Seq, .int .i64 x157.S.Ack, .slice a165 x157.S.Body.length c166] 57)] :: [(b40, row [.int .i64 x303.2.2.Window, .int .i64 x303.2.2.Span, .int .i64 x303.2.2.Room, .int .i64 x303.2.2.Epoch, .int .i64 x303.2.2.Next, .int .i64 x303.2.2.Acked, .int .i64 x303.2.2.Sent, .int .i64 x303.2.2.Got, .slice a311 x303.2.2.Out.length c312, .slice a316 x303.2.2.Early.length c317, .bool x303.2.2.Owes] 54)] :: [(b21, row [.int .i64 x285.2.2.window, .int .i64 x285.2.2.span, .int .i64 x285.2.2.room, .int .i64 x285.2.2.epoch, .int .i64 x285.2.2.now, .int .i64 x285.2.2.next, .int .i64 x285.2.2.acked, .int .i64 x285.2.2.sent, .slice a293 x285.2.2.out.length c294, .int .i64 x285.2.2.got, .map (some b298), .bool x285.2.2.owes] 74)] :: [(b1, row [.int .i64 p0.Window, .int .i64 p0.Span, .int .i64 p0.Room] 23)] :: Φ))) ?_
                                    rintro _ _ ⟨rfl, hs328⟩
                                    have hs328 := Sat.unlay F [p309, p291, q305, q287, w88] hs328
                                    have hs328 := (hs328.arrange 5 9 [2, 3, 4, 5] [0, 6, 7, 1, 8, 9, 10, 11, 12, 13] (by decide))
                                    refine ⟨(Mem.add (Mem.add (Mem.add (Mem.add F χ) w88) q287) q305), (p309 :: p314 :: p319 :: p291 :: p296 :: p299 :: [(b168, row [.int .i64 x157.Kind, .int .i64 x157.N, .slice a162 x157.Bodies.length c163, .int .i64 x157.S.Epoch, .int .i64 x157.S.Seq, .int .i64 x157.S.Ack, .slice a165 x157.S.Body.length c166] 57)] :: [(b40, row [.int .i64 x303.2.2.Window, .int .i64 x303.2.2.Span, .int .i64 x303.2.2.Room, .int .i64 x303.2.2.Epoch, .int .i64 x303.2.2.Next, .int .i64 x303.2.2.Acked, .int .i64 x303.2.2.Sent, .int .i64 x303.2.2.Got, .slice a311 x303.2.2.Out.length c312, .slice a316 x303.2.2.Early.length c317, .bool x303.2.2.Owes] 54)] :: [(b21, row [.int .i64 x285.2.2.window, .int .i64 x285.2.2.span, .int .i64 x285.2.2.room, .int .i64 x285.2.2.epoch, .int .i64 x285.2.2.now, .int .i64 x285.2.2.next, .int .i64 x285.2.2.acked, .int .i64 x285.2.2.sent, .slice a293 x285.2.2.out.length c294, .int .i64 x285.2.2.got, .map (some b298), .bool x285.2.2.owes] 74)] :: [(b1, row [.int .i64 p0.Window, .int .i64 p0.Span, .int .i64 p0.Room] 23)] :: Φ), hs328, trivial, ?_⟩
                                    refine WO.un rfl rfl rfl rfl rfl ?_
                                    refine WO.pickF rfl rfl rfl rfl rfl ?_
                                    refine WO.done ?_
                                    refine At.seq_at ?_
                                    exact fun a w hc hs => ⟨(!x326), hr, (hc.keep (hc.keep (hc.keep (hc.keep (hc.keep (hc.keep hc.nil (t := 118) rfl) (t := 8) rfl) (t := 7) rfl) (t := 5) rfl) (t := 2) rfl) (t := 1) rfl), hs⟩
                                · rintro a w ⟨v323, hr, hc, hs⟩
                                  refine WC.use hc hs ?_
                                  clear hc hs
                                  unfold law16_LinkActs_k11 at hr
                                  refine WC.cond rfl (fun hb324 => ?_) (fun hb324 => ?_)
                                  · have hr := cond_t hb324 hr
                                    refine WC.then ?_
                                    refine WC.region [(0, true)] rfl ?_
                                    refine WO.assign rfl rfl rfl rfl ?_
                                    refine WO.done ?_
                                    refine At.seq_wc ?_
                                    refine WC.ret ?_
                                    refine At.block_ret ?_
                                    refine At.seq_ret ?_
                                    refine At.block_ret ?_
                                    refine At.seq_ret ?_
                                    refine At.round_ret hr (fun hy => ?_)
                                    subst hy
                                    have hr := hk8
                                    refine At.block_ret ?_
                                    refine At.seq_ret ?_
                                    refine At.seq_ret ?_
                                    obtain rfl := Option.some.inj hr
                                    exact At.ret (fun a w hc hs => (resVs_cons (hc.res rfl) resVs_nil)) (fun w hs => ⟨rfl, (hs.arrange 4 10 [3] [] (by decide))⟩)
                                  · have hr := cond_f hb324 hr
                                    refine WC.skip ?_
                                    refine At.block_normal ?_
                                    refine At.seq_at ?_
                                    exact fun a w hc hs => ⟨x303.2.2, x285.2.2, a311, c312, p314, a316, c317, p319, a293, c294, p296, b298, p299, (List.flatten [q305, q287]), hr, (hc.keep (hc.keep (hc.keep (hc.keep (hc.keep hc.nil (t := 8) rfl) (t := 7) rfl) (t := 5) rfl) (t := 2) rfl) (t := 1) rfl), ((hs.arrange 4 10 [0, 1, 2, 3] [5, 6, 8, 9, 10, 11, 12, 13] (by decide)).gather 2), (h313.mono mono_ref16_Body (Mem.le.trans (Mem.le_pick (Mem.add (Mem.add (Mem.add F w88) q287) q305) 3 [0, 2] (by decide)) (Mem.le_gather (Mem.add (Mem.add (Mem.add F w88) q287) q305) 2))), (h318.mono mono_ref16_Early (Mem.le.trans (Mem.le_pick (Mem.add (Mem.add (Mem.add F w88) q287) q305) 3 [0, 2] (by decide)) (Mem.le_gather (Mem.add (Mem.add (Mem.add F w88) q287) q305) 2))), (h295.mono mono_link_body (Mem.le.trans (Mem.le_pick (Mem.add (Mem.add (Mem.add F w88) q287) q305) 3 [1, 2] (by decide)) (Mem.le_gather (Mem.add (Mem.add (Mem.add F w88) q287) q305) 2))), (hm301.mono (monoV1 (mono_sl (mono_int _))) (Mem.le.trans (Mem.le_pick (Mem.add (Mem.add (Mem.add F w88) q287) q305) 3 [1, 2] (by decide)) (Mem.le_gather (Mem.add (Mem.add (Mem.add F w88) q287) q305) 2)))⟩
                              · have hr := cond_f hb284 hr
                                refine WC.then ?_
                                refine WC.region [(0, true), (1, true)] rfl ?_
                                refine WO.bin rfl rfl rfl rfl rfl rfl ?_
                                refine WO.assign rfl rfl rfl rfl ?_
                                refine WO.done ?_
                                refine At.seq_wc ?_
                                refine WC.cond rfl (fun hb329 => ?_) (fun hb329 => ?_)
                                · have hr := cond_t hb329 hr
                                  refine WC.then ?_
                                  refine WC.draw (Sat (Mem.add (Mem.add F χ) w88) ([(b168, row [.int .i64 x157.Kind, .int .i64 x157.N, .slice a162 x157.Bodies.length c163, .int .i64 x157.S.Epoch, .int .i64 x157.S.Seq, .int .i64 x157.S.Ack, .slice a165 x157.S.Body.length c166] 57)] :: [(b1, row [.int .i64 p0.Window, .int .i64 p0.Span, .int .i64 p0.Room] 23)] :: Φ)) (fun _ h => (h.arrange 2 8 [0, 1] [2, 9] (by decide))) [(0, true), (1, true), (2, true), (4, true), (5, true), (6, true), (3, false), (7, false), (8, true)] mixed (by kernel_rfl) rfl (by kernel_rfl) ?_
                                  refine WO.move rfl rfl rfl rfl ?_
                                  refine WO.fieldAddr 1 rfl rfl rfl rfl fl_57_1 ?_
                                  refine WO.loadY 0 rfl rfl rfl rfl sc_3 rfl rfl ?_
                                  refine WO.move rfl rfl rfl rfl ?_
                                  refine WO.fieldAddr 1 rfl rfl rfl rfl fl_57_1 ?_
                                  refine WO.loadY 0 rfl rfl rfl rfl sc_3 rfl rfl ?_
                                  obtain ⟨x330, hx331, hr⟩ := bind_some' hr
                                  refine WO.call rfl rfl rfl rfl rfl cl_21 (CallsRet.lay0 2 8 [0] [8, 5, 6, 1, 2, 3, 4, 7, 9] (by decide) (Mem.add F w88) ([(b21, row [.int .i64 v101.window, .int .i64 v101.span, .int .i64 v101.room, .int .i64 v101.epoch, .int .i64 v101.now, .int .i64 v101.next, .int .i64 v101.acked, .int .i64 v101.sent, .slice a102 v101.out.length c103, .int .i64 v101.got, .map (some b107), .bool v101.owes] 74)] :: p104 :: p108 :: χ :: [(b168, row [.int .i64 x157.Kind, .int .i64 x157.N, .slice a162 x157.Bodies.length c163, .int .i64 x157.S.Epoch, .int .i64 x157.S.Seq, .int .i64 x157.S.Ack, .slice a165 x157.S.Body.length c166] 57)] :: p93 :: p98 :: [(b40, row [.int .i64 v90.Window, .int .i64 v90.Span, .int .i64 v90.Room, .int .i64 v90.Epoch, .int .i64 v90.Next, .int .i64 v90.Acked, .int .i64 v90.Sent, .int .i64 v90.Got, .slice a91 v90.Out.length c92, .slice a96 v90.Early.length c97, .bool v90.Owes] 54)] :: [(b1, row [.int .i64 p0.Window, .int .i64 p0.Span, .int .i64 p0.Room] 23)] :: Φ) rfl rfl (link_Link_Reset_vvvvvvvvovmv_ok (F := (Mem.add F w88)) ho105 hm109 hx331 (χ :: [(b168, row [.int .i64 x157.Kind, .int .i64 x157.N, .slice a162 x157.Bodies.length c163, .int .i64 x157.S.Epoch, .int .i64 x157.S.Seq, .int .i64 x157.S.Ack, .slice a165 x157.S.Body.length c166] 57)] :: p93 :: p98 :: [(b40, row [.int .i64 v90.Window, .int .i64 v90.Span, .int .i64 v90.Room, .int .i64 v90.Epoch, .int .i64 v90.Next, .int .i64 v90.Acked, .int .i64 v90.Sent, .int .i64 v90.Got, .slice a91 v90.Out.length c92, .slice a96 v90.Early.length c97, .bool v90.Owes] 54)] :: [(b1, row [.int .i64 p0.Window, .int .i64 p0.Span, .int .i64 p0.Room] 23)] :: Φ))) ?_
                                  rintro _ _ ⟨a332, c333, p335, b337, p338, rfl, hs341, h334, hm340⟩
                                  have hs341 := (hs341.arrange 1 9 [0, 4] [2, 3, 5, 6, 7, 8, 1, 9] (by decide))
                                  refine ⟨(Mem.add (Mem.add F χ) w88), (p335 :: p338 :: [(b168, row [.int .i64 x157.Kind, .int .i64 x157.N, .slice a162 x157.Bodies.length c163, .int .i64 x157.S.Epoch, .int .i64 x157.S.Seq, .int .i64 x157.S.Ack, .slice a165 x157.S.Body.length c166] 57)] :: p93 :: p98 :: [(b40, row [.int .i64 v90.Window, .int .i64 v90.Span, .int .i64 v90.Room, .int .i64 v90.Epoch, .int .i64 v90.Next, .int .i64 v90.Acked, .int .i64 v90.Sent, .int .i64 v90.Got, .slice a91 v90.Out.length c92, .slice a96 v90.Early.length c97, .bool v90.Owes] 54)] :: [(b21, row [.int .i64 x330.2.window, .int .i64 x330.2.span, .int .i64 x330.2.room, .int .i64 x330.2.epoch, .int .i64 x330.2.now, .int .i64 x330.2.next, .int .i64 x330.2.acked, .int .i64 x330.2.sent, .slice a332 x330.2.out.length c333, .int .i64 x330.2.got, .map (some b337), .bool x330.2.owes] 74)] :: [(b1, row [.int .i64 p0.Window, .int .i64 p0.Span, .int .i64 p0.Room] 23)] :: Φ), hs341, (hs341.arrange 2 8 [0, 1] [4, 9] (by decide)), ?_⟩
                                  obtain ⟨x342, hx343, hr⟩ := bind_some' hr
                                  refine WO.call rfl rfl rfl rfl rfl cl_22 (CallsRet.lay0 2 8 [0] [7, 5, 6, 1, 2, 3, 4, 8, 9] (by decide) (Mem.add F w88) ([(b40, row [.int .i64 v90.Window, .int .i64 v90.Span, .int .i64 v90.Room, .int .i64 v90.Epoch, .int .i64 v90.Next, .int .i64 v90.Acked, .int .i64 v90.Sent, .int .i64 v90.Got, .slice a91 v90.Out.length c92, .slice a96 v90.Early.length c97, .bool v90.Owes] 54)] :: p93 :: p98 :: χ :: p335 :: p338 :: [(b168, row [.int .i64 x157.Kind, .int .i64 x157.N, .slice a162 x157.Bodies.length c163, .int .i64 x157.S.Epoch, .int .i64 x157.S.Seq, .int .i64 x157.S.Ack, .slice a165 x157.S.Body.length c166] 57)] :: [(b21, row [.int .i64 x330.2.window, .int .i64 x330.2.span, .int .i64 x330.2.room, .int .i64 x330.2.epoch, .int .i64 x330.2.now, .int .i64 x330.2.next, .int .i64 x330.2.acked, .int .i64 x330.2.sent, .slice a332 x330.2.out.length c333, .int .i64 x330.2.got, .map (some b337), .bool x330.2.owes] 74)] :: [(b1, row [.int .i64 p0.Window, .int .i64 p0.Span, .int .i64 p0.Room] 23)] :: Φ) rfl rfl (ref16_Link_Reset_vvvvvvvvoov_ok (F := (Mem.add F w88)) ho94 ho99 hx343 (χ :: p335 :: p338 :: [(b168, row [.int .i64 x157.Kind, .int .i64 x157.N, .slice a162 x157.Bodies.length c163, .int .i64 x157.S.Epoch, .int .i64 x157.S.Seq, .int .i64 x157.S.Ack, .slice a165 x157.S.Body.length c166] 57)] :: [(b21, row [.int .i64 x330.2.window, .int .i64 x330.2.span, .int .i64 x330.2.room, .int .i64 x330.2.epoch, .int .i64 x330.2.now, .int .i64 x330.2.next, .int .i64 x330.2.acked, .int .i64 x330.2.sent, .slice a332 x330.2.out.length c333, .int .i64 x330.2.got, .map (some b337), .bool x330.2.owes] 74)] :: [(b1, row [.int .i64 p0.Window, .int .i64 p0.Span, .int .i64 p0.Room] 23)] :: Φ))) ?_
                                  rintro _ _ ⟨a344, c345, p347, a349, c350, p352, rfl, hs354, h346, h351⟩
                                  have hs354 := (hs354.arrange 1 9 [0, 4] [2, 3, 5, 6, 7, 1, 8, 9] (by decide))
                                  refine ⟨(Mem.add (Mem.add F χ) w88), (p347 :: p352 :: p335 :: p338 :: [(b168, row [.int .i64 x157.Kind, .int .i64 x157.N, .slice a162 x157.Bodies.length c163, .int .i64 x157.S.Epoch, .int .i64 x157.S.Seq, .int .i64 x157.S.Ack, .slice a165 x157.S.Body.length c166] 57)] :: [(b40, row [.int .i64 x342.2.Window, .int .i64 x342.2.Span, .int .i64 x342.2.Room, .int .i64 x342.2.Epoch, .int .i64 x342.2.Next, .int .i64 x342.2.Acked, .int .i64 x342.2.Sent, .int .i64 x342.2.Got, .slice a344 x342.2.Out.length c345, .slice a349 x342.2.Early.length c350, .bool x342.2.Owes] 54)] :: [(b21, row [.int .i64 x330.2.window, .int .i64 x330.2.span, .int .i64 x330.2.room, .int .i64 x330.2.epoch, .int .i64 x330.2.now, .int .i64 x330.2.next, .int .i64 x330.2.acked, .int .i64 x330.2.sent, .slice a332 x330.2.out.length c333, .int .i64 x330.2.got, .map (some b337), .bool x330.2.owes] 74)] :: [(b1, row [.int .i64 p0.Window, .int .i64 p0.Span, .int .i64 p0.Room] 23)] :: Φ), hs354, (hs354.arrange 2 8 [0, 1] [6, 9] (by decide)), ?_⟩
                                  refine WO.bin rfl rfl rfl rfl rfl rfl ?_
                                  refine WO.done ?_
                                  refine At.seq_wc ?_
                                  refine WC.cond rfl (fun hb355 => ?_) (fun hb355 => ?_)
                                  · have hr := cond_t hb355 hr
                                    refine WC.then ?_
                                    refine WC.region [(0, true)] rfl ?_
                                    refine WO.assign rfl rfl rfl rfl ?_
                                    refine WO.done ?_
                                    refine At.seq_wc ?_
                                    refine WC.ret ?_
                                    refine At.block_ret ?_
                                    refine At.seq_ret ?_
                                    refine At.block_ret ?_
                                    refine At.seq_ret ?_
                                    refine At.round_ret hr (fun hy => ?_)
                                    subst hy
                                    have hr := hk8
                                    refine At.block_ret ?_
                                    refine At.seq_ret ?_
                                    refine At.seq_ret ?_
                                    obtain rfl := Option.some.inj hr
                                    exact At.ret (fun a w hc hs => (resVs_cons (hc.res rfl) resVs_nil)) (fun w hs => ⟨rfl, (hs.arrange 2 8 [1] [] (by decide))⟩)
                                  · have hr := cond_f hb355 hr
                                    refine WC.skip ?_
                                    refine At.block_normal ?_
                                    refine At.seq_at ?_
                                    exact fun a w hc hs => ⟨x342.2, x330.2, a344, c345, p347, a349, c350, p352, a332, c333, p335, b337, p338, (List.flatten []), hr, (hc.keep (hc.keep (hc.keep (hc.keep (hc.keep hc.nil (t := 8) rfl) (t := 7) rfl) (t := 5) rfl) (t := 2) rfl) (t := 1) rfl), (hs.gather 0), (h346.mono mono_ref16_Body (Mem.le_gather (Mem.add F w88) 0)), (h351.mono mono_ref16_Early (Mem.le_gather (Mem.add F w88) 0)), (h334.mono mono_link_body (Mem.le_gather (Mem.add F w88) 0)), (hm340.mono (monoV1 (mono_sl (mono_int _))) (Mem.le_gather (Mem.add F w88) 0))⟩
                                · have hr := cond_f hb329 hr
                                  refine WC.skip ?_
                                  refine At.block_normal ?_
                                  refine At.seq_at ?_
                                  exact fun a w hc hs => ⟨v90, v101, a91, c92, p93, a96, c97, p98, a102, c103, p104, b107, p108, (List.flatten []), hr, (hc.keep (hc.keep (hc.keep (hc.keep (hc.keep hc.nil (t := 8) rfl) (t := 7) rfl) (t := 5) rfl) (t := 2) rfl) (t := 1) rfl), ((hs.arrange 2 8 [0, 1] [3, 4, 5, 6, 2, 7, 8, 9] (by decide)).gather 0), (ho94.mono mono_ref16_Body (Mem.le_gather (Mem.add F w88) 0)), (ho99.mono mono_ref16_Early (Mem.le_gather (Mem.add F w88) 0)), (ho105.mono mono_link_body (Mem.le_gather (Mem.add F w88) 0)), (hm109.mono (monoV1 (mono_sl (mono_int _))) (Mem.le_gather (Mem.add F w88) 0))⟩
                        · rintro a w ⟨v175, v186, a176, c177, p178, a181, c182, p183, a187, c188, p189, b192, p193, w174, hr, hc, hs, ho179, ho184, ho190, hm194⟩
                          refine WC.use hc hs ?_
                          clear hc hs
                          unfold law16_LinkActs_k9 at hr
                          refine WC.seq (fun a w => ∃ (v197 : Bool), law16_LinkActs_k10 v89 v175 v186 v197 = some r8 ∧ Ctx 163 [(1, .slice a_1 p1.length c_1), (2, .pointer (some ⟨b1, 0, none⟩)), (5, .pointer (some ⟨b21, 0, none⟩)), (7, .pointer (some ⟨b40, 0, none⟩)), (8, .int .i64 v89), (162, .bool v197)] a ∧ Sat (Mem.add (Mem.add (Mem.add F χ) w88) w174) (p178 :: p183 :: p189 :: p193 :: [(b168, row [.int .i64 x157.Kind, .int .i64 x157.N, .slice a162 x157.Bodies.length c163, .int .i64 x157.S.Epoch, .int .i64 x157.S.Seq, .int .i64 x157.S.Ack, .slice a165 x157.S.Body.length c166] 57)] :: [(b40, row [.int .i64 v175.Window, .int .i64 v175.Span, .int .i64 v175.Room, .int .i64 v175.Epoch, .int .i64 v175.Next, .int .i64 v175.Acked, .int .i64 v175.Sent, .int .i64 v175.Got, .slice a176 v175.Out.length c177, .slice a181 v175.Early.length c182, .bool v175.Owes] 54)] :: [(b21, row [.int .i64 v186.window, .int .i64 v186.span, .int .i64 v186.room, .int .i64 v186.epoch, .int .i64 v186.now, .int .i64 v186.next, .int .i64 v186.acked, .int .i64 v186.sent, .slice a187 v186.out.length c188, .int .i64 v186.got, .map (some b192), .bool v186.owes] 74)] :: [(b1, row [.int .i64 p0.Window, .int .i64 p0.Span, .int .i64 p0.Room] 23)] :: Φ) w) ?_ ?_
                          · refine WC.draw (Sat (Mem.add (Mem.add (Mem.add F χ) w88) w174) ([(b168, row [.int .i64 x157.Kind, .int .i64 x157.N, .slice a162 x157.Bodies.length c163, .int .i64 x157.S.Epoch, .int .i64 x157.S.Seq, .int .i64 x157.S.Ack, .slice a165 x157.S.Body.length c166] 57)] :: [(b40, row [.int .i64 v175.Window, .int .i64 v175.Span, .int .i64 v175.Room, .int .i64 v175.Epoch, .int .i64 v175.Next, .int .i64 v175.Acked, .int .i64 v175.Sent, .int .i64 v175.Got, .slice a176 v175.Out.length c177, .slice a181 v175.Early.length c182, .bool v175.Owes] 54)] :: [(b1, row [.int .i64 p0.Window, .int .i64 p0.Span, .int .i64 p0.Room] 23)] :: Φ)) (fun _ h => (h.arrange 3 8 [0, 1, 2] [7, 8, 10] (by decide))) [(0, true), (2, true), (3, true), (4, true), (5, true), (6, true), (1, false), (7, true), (8, true), (9, true), (11, true), (12, true), (13, true), (14, true), (10, false), (15, true), (16, true), (17, true), (18, true), (20, true), (21, true), (22, true), (23, true), (19, false), (24, true), (25, true), (26, true), (27, true), (29, true), (30, true), (28, false), (31, true), (32, true)] mixed (by kernel_rfl) rfl (by kernel_rfl) ?_
                            refine WO.move rfl rfl rfl rfl ?_
                            refine WO.move rfl rfl rfl rfl ?_
                            refine WO.nilCheck rfl rfl rfl rfl ?_
                            refine WO.fieldAddr 8 rfl rfl rfl rfl fl_54_8 ?_
                            refine WO.loadY 1 rfl rfl rfl rfl sc_51 rfl rfl ?_
                            refine WO.len rfl rfl rfl rfl Try.underlying51 ?_
                            obtain ⟨x199, hx200, hr⟩ := bind_some' hr
                            refine WO.call rfl rfl rfl rfl rfl cl_8 (CallsRet.lay0 3 8 [0, 1] [9, 5, 6, 2, 3, 4, 7, 8, 10] (by decide) (Mem.add (Mem.add F w88) w174) ([(b21, row [.int .i64 v186.window, .int .i64 v186.span, .int .i64 v186.room, .int .i64 v186.epoch, .int .i64 v186.now, .int .i64 v186.next, .int .i64 v186.acked, .int .i64 v186.sent, .slice a187 v186.out.length c188, .int .i64 v186.got, .map (some b192), .bool v186.owes] 74)] :: p189 :: p193 :: χ :: p178 :: p183 :: [(b168, row [.int .i64 x157.Kind, .int .i64 x157.N, .slice a162 x157.Bodies.length c163, .int .i64 x157.S.Epoch, .int .i64 x157.S.Seq, .int .i64 x157.S.Ack, .slice a165 x157.S.Body.length c166] 57)] :: [(b40, row [.int .i64 v175.Window, .int .i64 v175.Span, .int .i64 v175.Room, .int .i64 v175.Epoch, .int .i64 v175.Next, .int .i64 v175.Acked, .int .i64 v175.Sent, .int .i64 v175.Got, .slice a176 v175.Out.length c177, .slice a181 v175.Early.length c182, .bool v175.Owes] 54)] :: [(b1, row [.int .i64 p0.Window, .int .i64 p0.Span, .int .i64 p0.Room] 23)] :: Φ) rfl rfl (link_Link_Left_vvvvvvvvovmv_ok (F := (Mem.add (Mem.add F w88) w174)) ho190 hm194 hx200 (χ :: p178 :: p183 :: [(b168, row [.int .i64 x157.Kind, .int .i64 x157.N, .slice a162 x157.Bodies.length c163, .int .i64 x157.S.Epoch, .int .i64 x157.S.Seq, .int .i64 x157.S.Ack, .slice a165 x157.S.Body.length c166] 57)] :: [(b40, row [.int .i64 v175.Window, .int .i64 v175.Span, .int .i64 v175.Room, .int .i64 v175.Epoch, .int .i64 v175.Next, .int .i64 v175.Acked, .int .i64 v175.Sent, .int .i64 v175.Got, .slice a176 v175.Out.length c177, .slice a181 v175.Early.length c182, .bool v175.Owes] 54)] :: [(b1, row [.int .i64 p0.Window, .int .i64 p0.Span, .int .i64 p0.Room] 23)] :: Φ))) ?_
                            rintro _ _ ⟨rfl, hs201⟩
                            have hs201 := (hs201.arrange 2 9 [0, 1, 5] [6, 7, 3, 4, 8, 9, 2, 10] (by decide))
                            refine ⟨(Mem.add (Mem.add (Mem.add F χ) w88) w174), (p178 :: p183 :: p189 :: p193 :: [(b168, row [.int .i64 x157.Kind, .int .i64 x157.N, .slice a162 x157.Bodies.length c163, .int .i64 x157.S.Epoch, .int .i64 x157.S.Seq, .int .i64 x157.S.Ack, .slice a165 x157.S.Body.length c166] 57)] :: [(b40, row [.int .i64 v175.Window, .int .i64 v175.Span, .int .i64 v175.Room, .int .i64 v175.Epoch, .int .i64 v175.Next, .int .i64 v175.Acked, .int .i64 v175.Sent, .int .i64 v175.Got, .slice a176 v175.Out.length c177, .slice a181 v175.Early.length c182, .bool v175.Owes] 54)] :: [(b21, row [.int .i64 v186.window, .int .i64 v186.span, .int .i64 v186.room, .int .i64 v186.epoch, .int .i64 v186.now, .int .i64 v186.next, .int .i64 v186.acked, .int .i64 v186.sent, .slice a187 v186.out.length c188, .int .i64 v186.got, .map (some b192), .bool v186.owes] 74)] :: [(b1, row [.int .i64 p0.Window, .int .i64 p0.Span, .int .i64 p0.Room] 23)] :: Φ), hs201, (hs201.arrange 3 8 [0, 1, 2] [7, 8, 10] (by decide)), ?_⟩
                            refine WO.bin rfl rfl rfl rfl rfl rfl ?_
                            refine WO.move rfl rfl rfl rfl ?_
                            refine WO.split (t := 138) rfl (fun hg202 => ?_) (fun hg202 => ?_)
                            · have hr := cond_t hg202 hr
                              refine WO.skip rfl rfl rfl rfl ?_
                              refine WO.skip rfl rfl rfl rfl ?_
                              refine WO.skip rfl rfl rfl rfl ?_
                              refine WO.skip rfl rfl rfl rfl ?_
                              refine WO.skip rfl rfl rfl rfl ?_
                              refine WO.skipF rfl rfl rfl rfl ?_
                              refine WO.skip rfl rfl rfl rfl ?_
                              refine WO.pickT rfl rfl rfl rfl rfl ?_
                              refine WO.move rfl rfl rfl rfl ?_
                              refine WO.skip rfl rfl rfl rfl ?_
                              refine WO.skip rfl rfl rfl rfl ?_
                              refine WO.skip rfl rfl rfl rfl ?_
                              refine WO.skip rfl rfl rfl rfl ?_
                              refine WO.skip rfl rfl rfl rfl ?_
                              refine WO.skipF rfl rfl rfl rfl ?_
                              refine WO.skip rfl rfl rfl rfl ?_
                              refine WO.pickT rfl rfl rfl rfl rfl ?_
                              refine WO.move rfl rfl rfl rfl ?_
                              refine WO.skip rfl rfl rfl rfl ?_
                              refine WO.skip rfl rfl rfl rfl ?_
                              refine WO.skip rfl rfl rfl rfl ?_
                              refine WO.skipF rfl rfl rfl rfl ?_
                              refine WO.skip rfl rfl rfl rfl ?_
                              refine WO.pickT rfl rfl rfl rfl rfl ?_
                              refine WO.done ?_
                              refine At.seq_at ?_
                              exact fun a w hc hs => ⟨true, hr, (hc.keep (hc.keep (hc.keep (hc.keep (hc.keep (hc.keep hc.nil (t := 162) rfl) (t := 8) rfl) (t := 7) rfl) (t := 5) rfl) (t := 2) rfl) (t := 1) rfl), hs⟩
                            · have hr := cond_f hg202 hr
                              refine WO.move rfl rfl rfl rfl ?_
                              refine WO.move rfl rfl rfl rfl ?_
                              refine WO.nilCheck rfl rfl rfl rfl ?_
                              refine WO.fieldAddr 7 rfl rfl rfl rfl fl_54_7 ?_
                              refine WO.loadY 1 rfl rfl rfl rfl sc_3 rfl rfl ?_
                              obtain ⟨x203, hx204, hr⟩ := bind_some' hr
                              refine WO.call rfl rfl rfl rfl rfl cl_23 (CallsRet.lay0 3 8 [0, 1] [9, 5, 6, 2, 3, 4, 7, 8, 10] (by decide) (Mem.add (Mem.add F w88) w174) ([(b21, row [.int .i64 v186.window, .int .i64 v186.span, .int .i64 v186.room, .int .i64 v186.epoch, .int .i64 v186.now, .int .i64 v186.next, .int .i64 v186.acked, .int .i64 v186.sent, .slice a187 v186.out.length c188, .int .i64 v186.got, .map (some b192), .bool v186.owes] 74)] :: p189 :: p193 :: χ :: p178 :: p183 :: [(b168, row [.int .i64 x157.Kind, .int .i64 x157.N, .slice a162 x157.Bodies.length c163, .int .i64 x157.S.Epoch, .int .i64 x157.S.Seq, .int .i64 x157.S.Ack, .slice a165 x157.S.Body.length c166] 57)] :: [(b40, row [.int .i64 v175.Window, .int .i64 v175.Span, .int .i64 v175.Room, .int .i64 v175.Epoch, .int .i64 v175.Next, .int .i64 v175.Acked, .int .i64 v175.Sent, .int .i64 v175.Got, .slice a176 v175.Out.length c177, .slice a181 v175.Early.length c182, .bool v175.Owes] 54)] :: [(b1, row [.int .i64 p0.Window, .int .i64 p0.Span, .int .i64 p0.Room] 23)] :: Φ) rfl rfl (link_Link_Got_vvvvvvvvovmv_ok (F := (Mem.add (Mem.add F w88) w174)) ho190 hm194 hx204 (χ :: p178 :: p183 :: [(b168, row [.int .i64 x157.Kind, .int .i64 x157.N, .slice a162 x157.Bodies.length c163, .int .i64 x157.S.Epoch, .int .i64 x157.S.Seq, .int .i64 x157.S.Ack, .slice a165 x157.S.Body.length c166] 57)] :: [(b40, row [.int .i64 v175.Window, .int .i64 v175.Span, .int .i64 v175.Room, .int .i64 v175.Epoch, .int .i64 v175.Next, .int .i64 v175.Acked, .int .i64 v175.Sent, .int .i64 v175.Got, .slice a176 v175.Out.length c177, .slice a181 v175.Early.length c182, .bool v175.Owes] 54)] :: [(b1, row [.int .i64 p0.Window, .int .i64 p0.Span, .int .i64 p0.Room] 23)] :: Φ))) ?_
                              rintro _ _ ⟨rfl, hs205⟩
                              have hs205 := (hs205.arrange 2 9 [0, 1, 5] [6, 7, 3, 4, 8, 9, 2, 10] (by decide))
                              refine ⟨(Mem.add (Mem.add (Mem.add F χ) w88) w174), (p178 :: p183 :: p189 :: p193 :: [(b168, row [.int .i64 x157.Kind, .int .i64 x157.N, .slice a162 x157.Bodies.length c163, .int .i64 x157.S.Epoch, .int .i64 x157.S.Seq, .int .i64 x157.S.Ack, .slice a165 x157.S.Body.length c166] 57)] :: [(b40, row [.int .i64 v175.Window, .int .i64 v175.Span, .int .i64 v175.Room, .int .i64 v175.Epoch, .int .i64 v175.Next, .int .i64 v175.Acked, .int .i64 v175.Sent, .int .i64 v175.Got, .slice a176 v175.Out.length c177, .slice a181 v175.Early.length c182, .bool v175.Owes] 54)] :: [(b21, row [.int .i64 v186.window, .int .i64 v186.span, .int .i64 v186.room, .int .i64 v186.epoch, .int .i64 v186.now, .int .i64 v186.next, .int .i64 v186.acked, .int .i64 v186.sent, .slice a187 v186.out.length c188, .int .i64 v186.got, .map (some b192), .bool v186.owes] 74)] :: [(b1, row [.int .i64 p0.Window, .int .i64 p0.Span, .int .i64 p0.Room] 23)] :: Φ), hs205, (hs205.arrange 3 8 [0, 1, 2] [7, 8, 10] (by decide)), ?_⟩
                              refine WO.bin rfl rfl rfl rfl rfl rfl ?_
                              refine WO.pickF rfl rfl rfl rfl rfl ?_
                              refine WO.move rfl rfl rfl rfl ?_
                              refine WO.split (t := 147) rfl (fun hg206 => ?_) (fun hg206 => ?_)
                              · have hr := cond_t hg206 hr
                                refine WO.skip rfl rfl rfl rfl ?_
                                refine WO.skip rfl rfl rfl rfl ?_
                                refine WO.skip rfl rfl rfl rfl ?_
                                refine WO.skip rfl rfl rfl rfl ?_
                                refine WO.skip rfl rfl rfl rfl ?_
                                refine WO.skipF rfl rfl rfl rfl ?_
                                refine WO.skip rfl rfl rfl rfl ?_
                                refine WO.pickT rfl rfl rfl rfl rfl ?_
                                refine WO.move rfl rfl rfl rfl ?_
                                refine WO.skip rfl rfl rfl rfl ?_
                                refine WO.skip rfl rfl rfl rfl ?_
                                refine WO.skip rfl rfl rfl rfl ?_
                                refine WO.skipF rfl rfl rfl rfl ?_
                                refine WO.skip rfl rfl rfl rfl ?_
                                refine WO.pickT rfl rfl rfl rfl rfl ?_
                                refine WO.done ?_
                                refine At.seq_at ?_
                                exact fun a w hc hs => ⟨true, hr, (hc.keep (hc.keep (hc.keep (hc.keep (hc.keep (hc.keep hc.nil (t := 162) rfl) (t := 8) rfl) (t := 7) rfl) (t := 5) rfl) (t := 2) rfl) (t := 1) rfl), hs⟩
                              · have hr := cond_f hg206 hr
                                refine WO.move rfl rfl rfl rfl ?_
                                refine WO.move rfl rfl rfl rfl ?_
                                refine WO.nilCheck rfl rfl rfl rfl ?_
                                refine WO.fieldAddr 3 rfl rfl rfl rfl fl_54_3 ?_
                                refine WO.loadY 1 rfl rfl rfl rfl sc_3 rfl rfl ?_
                                obtain ⟨x207, hx208, hr⟩ := bind_some' hr
                                refine WO.call rfl rfl rfl rfl rfl cl_24 (CallsRet.lay0 3 8 [0, 1] [9, 5, 6, 2, 3, 4, 7, 8, 10] (by decide) (Mem.add (Mem.add F w88) w174) ([(b21, row [.int .i64 v186.window, .int .i64 v186.span, .int .i64 v186.room, .int .i64 v186.epoch, .int .i64 v186.now, .int .i64 v186.next, .int .i64 v186.acked, .int .i64 v186.sent, .slice a187 v186.out.length c188, .int .i64 v186.got, .map (some b192), .bool v186.owes] 74)] :: p189 :: p193 :: χ :: p178 :: p183 :: [(b168, row [.int .i64 x157.Kind, .int .i64 x157.N, .slice a162 x157.Bodies.length c163, .int .i64 x157.S.Epoch, .int .i64 x157.S.Seq, .int .i64 x157.S.Ack, .slice a165 x157.S.Body.length c166] 57)] :: [(b40, row [.int .i64 v175.Window, .int .i64 v175.Span, .int .i64 v175.Room, .int .i64 v175.Epoch, .int .i64 v175.Next, .int .i64 v175.Acked, .int .i64 v175.Sent, .int .i64 v175.Got, .slice a176 v175.Out.length c177, .slice a181 v175.Early.length c182, .bool v175.Owes] 54)] :: [(b1, row [.int .i64 p0.Window, .int .i64 p0.Span, .int .i64 p0.Room] 23)] :: Φ) rfl rfl (link_Link_Epoch_vvvvvvvvovmv_ok (F := (Mem.add (Mem.add F w88) w174)) ho190 hm194 hx208 (χ :: p178 :: p183 :: [(b168, row [.int .i64 x157.Kind, .int .i64 x157.N, .slice a162 x157.Bodies.length c163, .int .i64 x157.S.Epoch, .int .i64 x157.S.Seq, .int .i64 x157.S.Ack, .slice a165 x157.S.Body.length c166] 57)] :: [(b40, row [.int .i64 v175.Window, .int .i64 v175.Span, .int .i64 v175.Room, .int .i64 v175.Epoch, .int .i64 v175.Next, .int .i64 v175.Acked, .int .i64 v175.Sent, .int .i64 v175.Got, .slice a176 v175.Out.length c177, .slice a181 v175.Early.length c182, .bool v175.Owes] 54)] :: [(b1, row [.int .i64 p0.Window, .int .i64 p0.Span, .int .i64 p0.Room] 23)] :: Φ))) ?_
                                rintro _ _ ⟨rfl, hs209⟩
                                have hs209 := (hs209.arrange 2 9 [0, 1, 5] [6, 7, 3, 4, 8, 9, 2, 10] (by decide))
                                refine ⟨(Mem.add (Mem.add (Mem.add F χ) w88) w174), (p178 :: p183 :: p189 :: p193 :: [(b168, row [.int .i64 x157.Kind, .int .i64 x157.N, .slice a162 x157.Bodies.length c163, .int .i64 x157.S.Epoch, .int .i64 x157.S.Seq, .int .i64 x157.S.Ack, .slice a165 x157.S.Body.length c166] 57)] :: [(b40, row [.int .i64 v175.Window, .int .i64 v175.Span, .int .i64 v175.Room, .int .i64 v175.Epoch, .int .i64 v175.Next, .int .i64 v175.Acked, .int .i64 v175.Sent, .int .i64 v175.Got, .slice a176 v175.Out.length c177, .slice a181 v175.Early.length c182, .bool v175.Owes] 54)] :: [(b21, row [.int .i64 v186.window, .int .i64 v186.span, .int .i64 v186.room, .int .i64 v186.epoch, .int .i64 v186.now, .int .i64 v186.next, .int .i64 v186.acked, .int .i64 v186.sent, .slice a187 v186.out.length c188, .int .i64 v186.got, .map (some b192), .bool v186.owes] 74)] :: [(b1, row [.int .i64 p0.Window, .int .i64 p0.Span, .int .i64 p0.Room] 23)] :: Φ), hs209, (hs209.arrange 3 8 [0, 1, 2] [7, 8, 10] (by decide)), ?_⟩
                                refine WO.bin rfl rfl rfl rfl rfl rfl ?_
                                refine WO.pickF rfl rfl rfl rfl rfl ?_
                                refine WO.move rfl rfl rfl rfl ?_
                                refine WO.split (t := 156) rfl (fun hg210 => ?_) (fun hg210 => ?_)
                                · have hr := cond_t hg210 hr
                                  refine WO.skip rfl rfl rfl rfl ?_
                                  refine WO.skip rfl rfl rfl rfl ?_
                                  refine WO.skip rfl rfl rfl rfl ?_
                                  refine WO.skipF rfl rfl rfl rfl ?_
                                  refine WO.skip rfl rfl rfl rfl ?_
                                  refine WO.pickT rfl rfl rfl rfl rfl ?_
                                  refine WO.done ?_
                                  refine At.seq_at ?_
                                  exact fun a w hc hs => ⟨true, hr, (hc.keep (hc.keep (hc.keep (hc.keep (hc.keep (hc.keep hc.nil (t := 162) rfl) (t := 8) rfl) (t := 7) rfl) (t := 5) rfl) (t := 2) rfl) (t := 1) rfl), hs⟩
                                · have hr := cond_f hg210 hr
                                  refine WO.move rfl rfl rfl rfl ?_
                                  refine WO.fieldAddr 2 rfl rfl rfl rfl fl_23_2 ?_
                                  refine WO.loadY 2 rfl rfl rfl rfl sc_3 rfl rfl ?_
                                  obtain ⟨x211, hx212, hr⟩ := bind_some' hr
                                  refine WO.call rfl rfl rfl rfl rfl cl_8 (CallsRet.lay0 3 8 [0, 1] [9, 5, 6, 2, 3, 4, 7, 8, 10] (by decide) (Mem.add (Mem.add F w88) w174) ([(b21, row [.int .i64 v186.window, .int .i64 v186.span, .int .i64 v186.room, .int .i64 v186.epoch, .int .i64 v186.now, .int .i64 v186.next, .int .i64 v186.acked, .int .i64 v186.sent, .slice a187 v186.out.length c188, .int .i64 v186.got, .map (some b192), .bool v186.owes] 74)] :: p189 :: p193 :: χ :: p178 :: p183 :: [(b168, row [.int .i64 x157.Kind, .int .i64 x157.N, .slice a162 x157.Bodies.length c163, .int .i64 x157.S.Epoch, .int .i64 x157.S.Seq, .int .i64 x157.S.Ack, .slice a165 x157.S.Body.length c166] 57)] :: [(b40, row [.int .i64 v175.Window, .int .i64 v175.Span, .int .i64 v175.Room, .int .i64 v175.Epoch, .int .i64 v175.Next, .int .i64 v175.Acked, .int .i64 v175.Sent, .int .i64 v175.Got, .slice a176 v175.Out.length c177, .slice a181 v175.Early.length c182, .bool v175.Owes] 54)] :: [(b1, row [.int .i64 p0.Window, .int .i64 p0.Span, .int .i64 p0.Room] 23)] :: Φ) rfl rfl (link_Link_Left_vvvvvvvvovmv_ok (F := (Mem.add (Mem.add F w88) w174)) ho190 hm194 hx212 (χ :: p178 :: p183 :: [(b168, row [.int .i64 x157.Kind, .int .i64 x157.N, .slice a162 x157.Bodies.length c163, .int .i64 x157.S.Epoch, .int .i64 x157.S.Seq, .int .i64 x157.S.Ack, .slice a165 x157.S.Body.length c166] 57)] :: [(b40, row [.int .i64 v175.Window, .int .i64 v175.Span, .int .i64 v175.Room, .int .i64 v175.Epoch, .int .i64 v175.Next, .int .i64 v175.Acked, .int .i64 v175.Sent, .int .i64 v175.Got, .slice a176 v175.Out.length c177, .slice a181 v175.Early.length c182, .bool v175.Owes] 54)] :: [(b1, row [.int .i64 p0.Window, .int .i64 p0.Span, .int .i64 p0.Room] 23)] :: Φ))) ?_
                                  rintro _ _ ⟨rfl, hs213⟩
                                  have hs213 := (hs213.arrange 2 9 [0, 1, 5] [6, 7, 3, 4, 8, 9, 2, 10] (by decide))
                                  refine ⟨(Mem.add (Mem.add (Mem.add F χ) w88) w174), (p178 :: p183 :: p189 :: p193 :: [(b168, row [.int .i64 x157.Kind, .int .i64 x157.N, .slice a162 x157.Bodies.length c163, .int .i64 x157.S.Epoch, .int .i64 x157.S.Seq, .int .i64 x157.S.Ack, .slice a165 x157.S.Body.length c166] 57)] :: [(b40, row [.int .i64 v175.Window, .int .i64 v175.Span, .int .i64 v175.Room, .int .i64 v175.Epoch, .int .i64 v175.Next, .int .i64 v175.Acked, .int .i64 v175.Sent, .int .i64 v175.Got, .slice a176 v175.Out.length c177, .slice a181 v175.Early.length c182, .bool v175.Owes] 54)] :: [(b21, row [.int .i64 v186.window, .int .i64 v186.span, .int .i64 v186.room, .int .i64 v186.epoch, .int .i64 v186.now, .int .i64 v186.next, .int .i64 v186.acked, .int .i64 v186.sent, .slice a187 v186.out.length c188, .int .i64 v186.got, .map (some b192), .bool v186.owes] 74)] :: [(b1, row [.int .i64 p0.Window, .int .i64 p0.Span, .int .i64 p0.Room] 23)] :: Φ), hs213, (hs213.arrange 3 8 [0, 1, 2] [7, 8, 10] (by decide)), ?_⟩
                                  refine WO.bin rfl rfl rfl rfl rfl rfl ?_
                                  refine WO.pickF rfl rfl rfl rfl rfl ?_
                                  refine WO.done ?_
                                  refine At.seq_at ?_
                                  exact fun a w hc hs => ⟨(decide (x211 > p0.Room)), hr, (hc.keep (hc.keep (hc.keep (hc.keep (hc.keep (hc.keep hc.nil (t := 162) rfl) (t := 8) rfl) (t := 7) rfl) (t := 5) rfl) (t := 2) rfl) (t := 1) rfl), hs⟩
                          · rintro a w ⟨v197, hr, hc, hs⟩
                            refine WC.use hc hs ?_
                            clear hc hs
                            unfold law16_LinkActs_k10 at hr
                            refine WC.cond rfl (fun hb198 => ?_) (fun hb198 => ?_)
                            · have hr := cond_t hb198 hr
                              refine WC.then ?_
                              refine WC.region [(0, true)] rfl ?_
                              refine WO.assign rfl rfl rfl rfl ?_
                              refine WO.done ?_
                              refine At.seq_wc ?_
                              refine WC.ret ?_
                              refine At.block_ret ?_
                              refine At.seq_ret ?_
                              refine At.round_ret hr (fun hy => ?_)
                              subst hy
                              have hr := hk8
                              refine At.block_ret ?_
                              refine At.seq_ret ?_
                              refine At.seq_ret ?_
                              obtain rfl := Option.some.inj hr
                              exact At.ret (fun a w hc hs => (resVs_cons (hc.res rfl) resVs_nil)) (fun w hs => ⟨rfl, (hs.arrange 3 8 [2] [] (by decide))⟩)
                            · have hr := cond_f hb198 hr
                              refine WC.skip ?_
                              refine At.block_normal ?_
                              refine At.seq_wc ?_
                              refine WC.region [(0, true), (1, true), (2, true)] rfl ?_
                              refine WO.move rfl rfl rfl rfl ?_
                              refine WO.bin rfl rfl rfl rfl rfl rfl ?_
                              refine WO.assign rfl rfl rfl rfl ?_
                              refine WO.done ?_
                              refine At.round_next hr ?_
                              exact fun a w hc hs => ⟨a176, c177, p178, a181, c182, p183, a187, c188, p189, b192, p193, (List.flatten [w174, w88]), (hc.keep (hc.keep (hc.keep (hc.keep (hc.keep hc.nil (t := 8) rfl) (t := 7) rfl) (t := 5) rfl) (t := 2) rfl) (t := 1) rfl), ((hs.arrange 3 8 [0, 1, 2] [3, 4, 5, 6, 8, 9, 10] (by decide)).gather 2), (ho179.mono mono_ref16_Body (Mem.le_gather (Mem.add (Mem.add F w88) w174) 2)), (ho184.mono mono_ref16_Early (Mem.le_gather (Mem.add (Mem.add F w88) w174) 2)), (ho190.mono mono_link_body (Mem.le_gather (Mem.add (Mem.add F w88) w174) 2)), (hm194.mono (monoV1 (mono_sl (mono_int _))) (Mem.le_gather (Mem.add (Mem.add F w88) w174) 2))⟩
                    · have hr := cond_f hb156 hr
                      refine WC.exit ?_
                      refine At.seq_exit ?_
                      refine At.round_exit hr (fun hy => ?_)
                      refine At.exit_block ?_
                      refine At.seq_at ?_
                      exact fun a w hc hs => ⟨v90, v101, a91, c92, p93, a96, c97, p98, a102, c103, p104, b107, p108, (List.flatten [w88]), hy, hc.nil, (hs.gather 1), (ho94.mono mono_ref16_Body (Mem.le_gather (Mem.add F w88) 1)), (ho99.mono mono_ref16_Early (Mem.le_gather (Mem.add F w88) 1)), (ho105.mono mono_link_body (Mem.le_gather (Mem.add F w88) 1)), (hm109.mono (monoV1 (mono_sl (mono_int _))) (Mem.le_gather (Mem.add F w88) 1))⟩
                · rintro a w ⟨v135, v146, a136, c137, p138, a141, c142, p143, a147, c148, p149, b152, p153, w134, rfl, hc, hs, ho139, ho144, ho150, hm154⟩
                  refine At.use hc hs ?_
                  clear hc hs
                  (try dsimp only at hk8)
                  have hr := hk8
                  refine At.seq_at ?_
                  exact fun a w hc hs => ⟨v135, v146, a136, c137, p138, a141, c142, p143, a147, c148, p149, b152, p153, (List.flatten [w134]), hr, hc.nil, (hs.gather 1), (ho139.mono mono_ref16_Body (Mem.le_gather (Mem.add F w134) 1)), (ho144.mono mono_ref16_Early (Mem.le_gather (Mem.add F w134) 1)), (ho150.mono mono_link_body (Mem.le_gather (Mem.add F w134) 1)), (hm154.mono (monoV1 (mono_sl (mono_int _))) (Mem.le_gather (Mem.add F w134) 1))⟩
              · rintro a w ⟨v43, v54, a44, c45, p46, a49, c50, p51, a55, c56, p57, b60, p61, w42, hr, hc, hs, ho47, ho52, ho58, hm62⟩
                refine WC.use hc hs ?_
                clear hc hs
                unfold law16_LinkActs_k6 at hr
                refine WC.then ?_
                refine WC.region [(0, true)] rfl ?_
                refine WO.assign rfl rfl rfl rfl ?_
                refine WO.done ?_
                refine At.seq_wc ?_
                refine WC.ret ?_
                obtain rfl := Option.some.inj hr
                exact At.ret (fun a w hc hs => (resVs_cons (hc.res rfl) resVs_nil)) (fun w hs => ⟨rfl, (hs.arrange 2 7 [1] [] (by decide))⟩)
end
end Go.Pel

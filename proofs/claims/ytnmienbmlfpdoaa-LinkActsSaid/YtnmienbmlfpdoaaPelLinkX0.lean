/- Each function: its pure text, and that it comes to it. -/
import Derived.Test.YtnmienbmlfpdoaaPelMarks
import Derived.Test.YtnmienbmlfpdoaaProg
set_option linter.unusedVariables false
set_option maxHeartbeats 2000000
namespace Go.Pel
open Go.RowKit Go.Proofs
noncomputable section
structure S_law16_Sides where
  Window : Int
  Span : Int
  Room : Int
def R_law16_Sides : Mem → List Value → S_law16_Sides → Prop := fun F cs x => cs = [.int .i64 x.Window, .int .i64 x.Span, .int .i64 x.Room]
theorem mono_law16_Sides : Mono R_law16_Sides := fun _ _ _ _ _ h => h
theorem const_law16_Sides : Const R_law16_Sides := fun _ _ _ _ h => h
structure S_api_Seg where
  Epoch : Int
  Seq : Int
  Ack : Int
  Body : List Int
def R_api_Seg : Mem → List Value → S_api_Seg → Prop := fun F cs x => ∃ a0 c0, cs = [.int .i64 x.Epoch, .int .i64 x.Seq, .int .i64 x.Ack, .slice a0 x.Body.length c0] ∧ RdL 1 (RInt .u8) F a0 c0 x.Body
theorem mono_api_Seg : Mono R_api_Seg := fun _ _ _ _ hl ⟨a0, c0, e, h0⟩ => ⟨a0, c0, e, h0.mono (mono_int _) hl⟩
structure S_law16_Act where
  Kind : Int
  N : Int
  Bodies : List (List Int)
  S : S_api_Seg
def R_law16_Act : Mem → List Value → S_law16_Act → Prop := fun F cs x => ∃ a0 c0 a1 c1, cs = [.int .i64 x.Kind, .int .i64 x.N, .slice a0 x.Bodies.length c0, .int .i64 x.S.Epoch, .int .i64 x.S.Seq, .int .i64 x.S.Ack, .slice a1 x.S.Body.length c1] ∧ RdL 1 (RSl 1 (RInt .u8)) F a0 c0 x.Bodies ∧ RdL 1 (RInt .u8) F a1 c1 x.S.Body
theorem mono_law16_Act : Mono R_law16_Act := fun _ _ _ _ hl ⟨a0, c0, a1, c1, e, h0, h1⟩ => ⟨a0, c0, a1, c1, e, h0.mono (mono_sl (mono_int _)) hl, h1.mono (mono_int _) hl⟩
structure S_link_body where
  seq : Int
  at_ : Int
  b : List Int
def R_link_body : Mem → List Value → S_link_body → Prop := fun F cs x => ∃ a0 c0, cs = [.int .i64 x.seq, .int .i64 x.at_, .slice a0 x.b.length c0] ∧ RdL 1 (RInt .u8) F a0 c0 x.b
theorem mono_link_body : Mono R_link_body := fun _ _ _ _ hl ⟨a0, c0, e, h0⟩ => ⟨a0, c0, e, h0.mono (mono_int _) hl⟩
structure S_link_Link where
  window : Int
  span : Int
  room : Int
  epoch : Int
  now : Int
  next : Int
  acked : Int
  sent : Int
  out : List S_link_body
  got : Int
  early : List (Int × List Int)
  owes : Bool
structure S_ref16_Body where
  Seq : Int
  Since : Int
  B : List Int
def R_ref16_Body : Mem → List Value → S_ref16_Body → Prop := fun F cs x => ∃ a0 c0, cs = [.int .i64 x.Seq, .int .i64 x.Since, .slice a0 x.B.length c0] ∧ RdL 1 (RInt .u8) F a0 c0 x.B
theorem mono_ref16_Body : Mono R_ref16_Body := fun _ _ _ _ hl ⟨a0, c0, e, h0⟩ => ⟨a0, c0, e, h0.mono (mono_int _) hl⟩
structure S_ref16_Early where
  Seq : Int
  B : List Int
def R_ref16_Early : Mem → List Value → S_ref16_Early → Prop := fun F cs x => ∃ a0 c0, cs = [.int .i64 x.Seq, .slice a0 x.B.length c0] ∧ RdL 1 (RInt .u8) F a0 c0 x.B
theorem mono_ref16_Early : Mono R_ref16_Early := fun _ _ _ _ hl ⟨a0, c0, e, h0⟩ => ⟨a0, c0, e, h0.mono (mono_int _) hl⟩
structure S_ref16_Link where
  Window : Int
  Span : Int
  Room : Int
  Epoch : Int
  Next : Int
  Acked : Int
  Sent : Int
  Got : Int
  Out : List S_ref16_Body
  Early : List S_ref16_Early
  Owes : Bool
def R_ref16_Link : Mem → List Value → S_ref16_Link → Prop := fun F cs x => ∃ a0 c0 a1 c1, cs = [.int .i64 x.Window, .int .i64 x.Span, .int .i64 x.Room, .int .i64 x.Epoch, .int .i64 x.Next, .int .i64 x.Acked, .int .i64 x.Sent, .int .i64 x.Got, .slice a0 x.Out.length c0, .slice a1 x.Early.length c1, .bool x.Owes] ∧ RdL 3 R_ref16_Body F a0 c0 x.Out ∧ RdL 2 R_ref16_Early F a1 c1 x.Early
theorem mono_ref16_Link : Mono R_ref16_Link := fun _ _ _ _ hl ⟨a0, c0, a1, c1, e, h0, h1⟩ => ⟨a0, c0, a1, c1, e, h0.mono mono_ref16_Body hl, h1.mono mono_ref16_Early hl⟩
theorem cl_25 : callable Try.prog 25 = true := by kernel_rfl
theorem cl_6 : callable Try.prog 6 = true := by kernel_rfl
theorem sz_38 : sizeB Try.prog 38 1 = true := by kernel_rfl
theorem sc_38 : scalarB Try.prog 38 = true := by kernel_rfl
theorem cl_27 : callable Try.prog 27 = true := by kernel_rfl
theorem cl_33 : callable Try.prog 33 = true := by kernel_rfl
theorem cl_26 : callable Try.prog 26 = true := by kernel_rfl
theorem mixed : Try.prog.follows .mixedOrders = true := by kernel_rfl
theorem fl_74_2 : fieldB Try.prog 74 2 2 = true := by kernel_rfl
theorem sc_3 : scalarB Try.prog 3 = true := by kernel_rfl
theorem fl_74_8 : fieldB Try.prog 74 8 8 = true := by kernel_rfl
theorem sc_72 : scalarB Try.prog 72 = true := by kernel_rfl
theorem fl_74_5 : fieldB Try.prog 74 5 5 = true := by kernel_rfl
theorem sz_3 : sizeB Try.prog 3 1 = true := by kernel_rfl
theorem el_5 : elemB Try.prog 5 1 1 = true := by kernel_rfl
theorem cl_28 : callable Try.prog 28 = true := by kernel_rfl
theorem el_79 : elemB Try.prog 79 3 40 = true := by kernel_rfl
theorem sz_72 : sizeB Try.prog 72 1 = true := by kernel_rfl
theorem cl_13 : callable Try.prog 13 = true := by kernel_rfl
theorem fl_74_4 : fieldB Try.prog 74 4 4 = true := by kernel_rfl
theorem sz_79 : sizeB Try.prog 79 3 = true := by kernel_rfl
theorem fl_79_0 : fieldB Try.prog 79 0 0 = true := by kernel_rfl
theorem fl_74_6 : fieldB Try.prog 74 6 6 = true := by kernel_rfl
theorem fl_74_0 : fieldB Try.prog 74 0 0 = true := by kernel_rfl
theorem fl_79_1 : fieldB Try.prog 79 1 1 = true := by kernel_rfl
theorem fl_74_1 : fieldB Try.prog 74 1 1 = true := by kernel_rfl
theorem fl_74_7 : fieldB Try.prog 74 7 7 = true := by kernel_rfl
theorem fl_74_3 : fieldB Try.prog 74 3 3 = true := by kernel_rfl
theorem fl_74_9 : fieldB Try.prog 74 9 9 = true := by kernel_rfl
theorem fl_79_2 : fieldB Try.prog 79 2 2 = true := by kernel_rfl
theorem el_46 : elemB Try.prog 46 4 48 = true := by kernel_rfl
theorem fl_74_11 : fieldB Try.prog 74 11 11 = true := by kernel_rfl
theorem sc_4 : scalarB Try.prog 4 = true := by kernel_rfl
theorem sz_4 : sizeB Try.prog 4 1 = true := by kernel_rfl
theorem cl_16 : callable Try.prog 16 = true := by kernel_rfl
theorem fl_46_0 : fieldB Try.prog 46 0 0 = true := by kernel_rfl
theorem sc_27 : scalarB Try.prog 27 = true := by kernel_rfl
theorem fl_46_2 : fieldB Try.prog 46 2 2 = true := by kernel_rfl
theorem fl_46_1 : fieldB Try.prog 46 1 1 = true := by kernel_rfl
theorem fl_46_3 : fieldB Try.prog 46 3 3 = true := by kernel_rfl
theorem ag_79 : aggB Try.prog 79 3 = true := by kernel_rfl
theorem cl_31 : callable Try.prog 31 = true := by kernel_rfl
theorem cl_34 : callable Try.prog 34 = true := by kernel_rfl
theorem zb_79 : zeroB Try.prog 79 (.agg #[.int .i64 0, .int .i64 0, .slice none 0 0]) := by unfold zeroB; kernel_rfl
theorem cl_30 : callable Try.prog 30 = true := by kernel_rfl
theorem fl_74_10 : fieldB Try.prog 74 10 10 = true := by kernel_rfl
theorem sc_71 : scalarB Try.prog 71 = true := by kernel_rfl
theorem key_3 : KeyB Try.prog 3 (fun x : Int => Value.int .i64 x) := key_int Try.underlying3
theorem zb_38 : zeroB Try.prog 38 (.slice none 0 0) := by unfold zeroB; kernel_rfl
theorem el_38 : elemB Try.prog 38 1 24 = true := by kernel_rfl
theorem cl_18 : callable Try.prog 18 = true := by kernel_rfl
theorem sz_46 : sizeB Try.prog 46 4 = true := by kernel_rfl
theorem cl_5 : callable Try.prog 5 = true := by kernel_rfl
theorem fl_23_0 : fieldB Try.prog 23 0 0 = true := by kernel_rfl
theorem fl_23_1 : fieldB Try.prog 23 1 1 = true := by kernel_rfl
theorem fl_23_2 : fieldB Try.prog 23 2 2 = true := by kernel_rfl
theorem cl_11 : callable Try.prog 11 = true := by kernel_rfl
theorem sz_57 : sizeB Try.prog 57 7 = true := by kernel_rfl
theorem ag_57 : aggB Try.prog 57 7 = true := by kernel_rfl
theorem zb_57 : zeroB Try.prog 57 (.agg #[.int .i64 0, .int .i64 0, .slice none 0 0, .int .i64 0, .int .i64 0, .int .i64 0, .slice none 0 0]) := by unfold zeroB; kernel_rfl
theorem fl_57_2 : fieldB Try.prog 57 2 2 = true := by kernel_rfl
theorem sc_55 : scalarB Try.prog 55 = true := by kernel_rfl
theorem fl_57_3 : fieldB Try.prog 57 3 3 = true := by kernel_rfl
theorem cl_12 : callable Try.prog 12 = true := by kernel_rfl
theorem fl_57_0 : fieldB Try.prog 57 0 0 = true := by kernel_rfl
theorem fl_54_8 : fieldB Try.prog 54 8 8 = true := by kernel_rfl
theorem sc_51 : scalarB Try.prog 51 = true := by kernel_rfl
theorem fl_54_2 : fieldB Try.prog 54 2 2 = true := by kernel_rfl
theorem fl_54_4 : fieldB Try.prog 54 4 4 = true := by kernel_rfl
theorem el_81 : elemB Try.prog 81 3 40 = true := by kernel_rfl
theorem sz_51 : sizeB Try.prog 51 1 = true := by kernel_rfl
theorem cl_14 : callable Try.prog 14 = true := by kernel_rfl
theorem sz_81 : sizeB Try.prog 81 3 = true := by kernel_rfl
theorem fl_81_1 : fieldB Try.prog 81 1 1 = true := by kernel_rfl
theorem fl_81_0 : fieldB Try.prog 81 0 0 = true := by kernel_rfl
theorem fl_54_5 : fieldB Try.prog 54 5 5 = true := by kernel_rfl
theorem fl_54_0 : fieldB Try.prog 54 0 0 = true := by kernel_rfl
theorem fl_54_1 : fieldB Try.prog 54 1 1 = true := by kernel_rfl
theorem fl_54_6 : fieldB Try.prog 54 6 6 = true := by kernel_rfl
theorem fl_54_3 : fieldB Try.prog 54 3 3 = true := by kernel_rfl
theorem fl_54_7 : fieldB Try.prog 54 7 7 = true := by kernel_rfl
theorem fl_81_2 : fieldB Try.prog 81 2 2 = true := by kernel_rfl
theorem fl_54_10 : fieldB Try.prog 54 10 10 = true := by kernel_rfl
theorem cl_17 : callable Try.prog 17 = true := by kernel_rfl
theorem ag_46 : aggB Try.prog 46 4 = true := by kernel_rfl
theorem cl_29 : callable Try.prog 29 = true := by kernel_rfl
theorem cl_15 : callable Try.prog 15 = true := by kernel_rfl
theorem ag_81 : aggB Try.prog 81 3 = true := by kernel_rfl
theorem fl_54_9 : fieldB Try.prog 54 9 9 = true := by kernel_rfl
theorem sc_52 : scalarB Try.prog 52 = true := by kernel_rfl
theorem sz_88 : sizeB Try.prog 88 2 = true := by kernel_rfl
theorem fl_88_0 : fieldB Try.prog 88 0 0 = true := by kernel_rfl
theorem cl_32 : callable Try.prog 32 = true := by kernel_rfl
theorem el_88 : elemB Try.prog 88 2 32 = true := by kernel_rfl
theorem sz_52 : sizeB Try.prog 52 1 = true := by kernel_rfl
theorem fl_88_1 : fieldB Try.prog 88 1 1 = true := by kernel_rfl
theorem ag_88 : aggB Try.prog 88 2 = true := by kernel_rfl
theorem cl_19 : callable Try.prog 19 = true := by kernel_rfl
theorem cl_20 : callable Try.prog 20 = true := by kernel_rfl
theorem fl_57_1 : fieldB Try.prog 57 1 1 = true := by kernel_rfl
theorem ag_74 : aggB Try.prog 74 12 = true := by kernel_rfl
theorem sz_74 : sizeB Try.prog 74 12 = true := by kernel_rfl
theorem cl_21 : callable Try.prog 21 = true := by kernel_rfl
theorem sz_54 : sizeB Try.prog 54 11 = true := by kernel_rfl
theorem cl_22 : callable Try.prog 22 = true := by kernel_rfl
theorem cl_8 : callable Try.prog 8 = true := by kernel_rfl
theorem cl_23 : callable Try.prog 23 = true := by kernel_rfl
theorem cl_24 : callable Try.prog 24 = true := by kernel_rfl
/-! peloton/link.in -/
def link_in_k1 (v2 : Bool) : Option Bool := some v2
def link_in (p0 : Int) (p1 : Int) : Option Bool := cond (decide (p0 ≥ 1)) (link_in_k1 (decide (p0 ≤ p1))) (link_in_k1 false)
theorem link_in_ok {F : Mem} {p0 : Int} {p1 : Int} {r : Bool} (hr : link_in p0 p1 = some r) (Φ : List (List Chunk)) :
    CallsRet Try.prog 25 (List.toArray [.int .i64 p0, .int .i64 p1]) F Φ (fun v w => v = .bool r ∧ Sat F (Φ) w) := by
  refine CallsRet.enter (rs := [.tmp 4]) Try.func25 rfl rfl rfl rfl ?_
  unfold link_in at hr
  refine WC.then ?_
  refine WC.region [(0, true)] rfl ?_
  refine WO.assign rfl rfl rfl rfl ?_
  refine WO.done ?_
  refine At.seq_wc ?_
  refine WC.seq (fun a w => ∃ (v2 : Bool), link_in_k1 v2 = some r ∧ Ctx 12 [(4, .bool v2)] a ∧ Sat F Φ w) ?_ ?_
  · refine WC.region [(0, true), (1, true), (2, true), (3, true), (4, true), (5, true), (6, true), (7, true)] rfl ?_
    refine WO.move rfl rfl rfl rfl ?_
    refine WO.bin rfl rfl rfl rfl rfl rfl ?_
    refine WO.move rfl rfl rfl rfl ?_
    refine WO.split (t := 7) rfl (fun hg3 => ?_) (fun hg3 => ?_)
    · have hr := cond_t hg3 hr
      refine WO.move rfl rfl rfl rfl ?_
      refine WO.move rfl rfl rfl rfl ?_
      refine WO.bin rfl rfl rfl rfl rfl rfl ?_
      refine WO.pickT rfl rfl rfl rfl rfl ?_
      refine WO.assign rfl rfl rfl rfl ?_
      refine WO.done ?_
      refine At.seq_at ?_
      exact fun a w hc hs => ⟨(decide (p0 ≤ p1)), hr, (hc.keep hc.nil (t := 4) rfl), hs⟩
    · have hr := cond_f hg3 hr
      refine WO.skip rfl rfl rfl rfl ?_
      refine WO.skip rfl rfl rfl rfl ?_
      refine WO.skip rfl rfl rfl rfl ?_
      refine WO.pickF rfl rfl rfl rfl rfl ?_
      refine WO.assign rfl rfl rfl rfl ?_
      refine WO.done ?_
      refine At.seq_at ?_
      exact fun a w hc hs => ⟨false, hr, (hc.keep hc.nil (t := 4) rfl), hs⟩
  · rintro a w ⟨v2, hr, hc, hs⟩
    refine WC.use hc hs ?_
    clear hc hs
    unfold link_in_k1 at hr
    refine WC.ret ?_
    obtain rfl := Option.some.inj hr
    exact At.ret (fun a w hc hs => (resVs_cons (hc.res rfl) resVs_nil)) (fun w hs => ⟨rfl, hs⟩)
/-! peloton/link.New -/
def link_New_k1 (p0 : Int) (v2 : Int) (v3 : Int) (v4 : Bool) : Option ((Option S_link_Link) × Int) := cond v4 (some (none, 2)) (some ((some (⟨p0, v2, v3, 0, 0, 0, 0, 0, ([] : List S_link_body), 0, ([] : List (Int × List Int)), false⟩ : S_link_Link)), 0))
def link_New (p0 : Int) (p1 : Int) (p2 : Int) : Option ((Option S_link_Link) × Int) := (link_in p0 64).bind fun x14 => cond (!x14) (link_New_k1 p0 p1 p2 true) ((link_in p1 1000).bind fun x18 => cond (!x18) (link_New_k1 p0 p1 p2 true) ((link_in p2 4096).bind fun x22 => link_New_k1 p0 p1 p2 (!x22)))
theorem link_New_ok {F : Mem} {p0 : Int} {p1 : Int} {p2 : Int} {r : (Option S_link_Link) × Int} (hr : link_New p0 p1 p2 = some r) (Φ : List (List Chunk)) :
    CallsRet Try.prog 6 (List.toArray [.int .i64 p0, .int .i64 p1, .int .i64 p2]) F Φ (fun v w => (r.1 = none ∧ v = .tuple (List.toArray [.pointer none, .int .i64 r.2]) ∧ Sat F (Φ) w) ∨ (∃ ob bp ap_8 cp_8 ψp_8 ap_10 ψp_10, r.1 = some ob ∧ v = .tuple (List.toArray [.pointer (some ⟨bp, 0, none⟩), .int .i64 r.2]) ∧ Sat F ([(bp, row [.int .i64 ob.window, .int .i64 ob.span, .int .i64 ob.room, .int .i64 ob.epoch, .int .i64 ob.now, .int .i64 ob.next, .int .i64 ob.acked, .int .i64 ob.sent, .slice ap_8 ob.out.length cp_8, .int .i64 ob.got, .map (some ap_10), .bool ob.owes] 74)] :: ψp_8 :: ψp_10 :: Φ) w ∧ OwnL 3 R_link_body F 79 ap_8 cp_8 ob.out ψp_8 ∧ OwnM (fun x : Int => Value.int .i64 x) (RV1 (RSl 1 (RInt .u8))) F ap_10 ob.early ψp_10)) := by
  refine CallsRet.enter (rs := [.tmp 6, .tmp 7]) Try.func6 rfl rfl rfl rfl ?_
  unfold link_New at hr
  refine WC.then ?_
  refine WC.region [(0, true), (1, true)] rfl ?_
  refine WO.assign rfl rfl rfl rfl ?_
  refine WO.assign rfl rfl rfl rfl ?_
  refine WO.done ?_
  refine At.seq_wc ?_
  refine WC.then ?_
  refine WC.seq (fun a w => ∃ (v2 : Int) (v3 : Int) (v4 : Bool), link_New_k1 p0 v2 v3 v4 = some r ∧ Ctx 27 [(0, .int .i64 p0), (1, .int .i64 v2), (2, .int .i64 v3), (20, .bool v4)] a ∧ Sat F Φ w) ?_ ?_
  · refine WC.region [(0, true), (1, false), (2, true), (3, true), (4, true), (5, false), (6, true), (7, true), (8, true), (9, true), (10, false), (11, true), (12, true)] rfl ?_
    refine WO.move rfl rfl rfl rfl ?_
    obtain ⟨x14, hx15, hr⟩ := bind_some' hr
    refine WO.call rfl rfl rfl rfl rfl cl_25 (link_in_ok (F := F) hx15 (Φ)) ?_
    rintro _ _ ⟨rfl, hs16⟩
    refine ⟨F, (Φ), hs16, trivial, ?_⟩
    refine WO.un rfl rfl rfl rfl rfl ?_
    refine WO.move rfl rfl rfl rfl ?_
    refine WO.split (t := 11) rfl (fun hg17 => ?_) (fun hg17 => ?_)
    · have hr := cond_t hg17 hr
      refine WO.skip rfl rfl rfl rfl ?_
      refine WO.skipF rfl rfl rfl rfl ?_
      refine WO.skip rfl rfl rfl rfl ?_
      refine WO.pickT rfl rfl rfl rfl rfl ?_
      refine WO.move rfl rfl rfl rfl ?_
      refine WO.skip rfl rfl rfl rfl ?_
      refine WO.skipF rfl rfl rfl rfl ?_
      refine WO.skip rfl rfl rfl rfl ?_
      refine WO.pickT rfl rfl rfl rfl rfl ?_
      refine WO.done ?_
      refine At.seq_at ?_
      exact fun a w hc hs => ⟨p1, p2, true, hr, (hc.keep (hc.keep (hc.keep (hc.keep hc.nil (t := 20) rfl) (t := 2) rfl) (t := 1) rfl) (t := 0) rfl), hs⟩
    · have hr := cond_f hg17 hr
      refine WO.move rfl rfl rfl rfl ?_
      obtain ⟨x18, hx19, hr⟩ := bind_some' hr
      refine WO.call rfl rfl rfl rfl rfl cl_25 (link_in_ok (F := F) hx19 (Φ)) ?_
      rintro _ _ ⟨rfl, hs20⟩
      refine ⟨F, (Φ), hs20, trivial, ?_⟩
      refine WO.un rfl rfl rfl rfl rfl ?_
      refine WO.pickF rfl rfl rfl rfl rfl ?_
      refine WO.move rfl rfl rfl rfl ?_
      refine WO.split (t := 16) rfl (fun hg21 => ?_) (fun hg21 => ?_)
      · have hr := cond_t hg21 hr
        refine WO.skip rfl rfl rfl rfl ?_
        refine WO.skipF rfl rfl rfl rfl ?_
        refine WO.skip rfl rfl rfl rfl ?_
        refine WO.pickT rfl rfl rfl rfl rfl ?_
        refine WO.done ?_
        refine At.seq_at ?_
        exact fun a w hc hs => ⟨p1, p2, true, hr, (hc.keep (hc.keep (hc.keep (hc.keep hc.nil (t := 20) rfl) (t := 2) rfl) (t := 1) rfl) (t := 0) rfl), hs⟩
      · have hr := cond_f hg21 hr
        refine WO.move rfl rfl rfl rfl ?_
        obtain ⟨x22, hx23, hr⟩ := bind_some' hr
        refine WO.call rfl rfl rfl rfl rfl cl_25 (link_in_ok (F := F) hx23 (Φ)) ?_
        rintro _ _ ⟨rfl, hs24⟩
        refine ⟨F, (Φ), hs24, trivial, ?_⟩
        refine WO.un rfl rfl rfl rfl rfl ?_
        refine WO.pickF rfl rfl rfl rfl rfl ?_
        refine WO.done ?_
        refine At.seq_at ?_
        exact fun a w hc hs => ⟨p1, p2, (!x22), hr, (hc.keep (hc.keep (hc.keep (hc.keep hc.nil (t := 20) rfl) (t := 2) rfl) (t := 1) rfl) (t := 0) rfl), hs⟩
  · rintro a w ⟨v2, v3, v4, hr, hc, hs⟩
    refine WC.use hc hs ?_
    clear hc hs
    unfold link_New_k1 at hr
    refine WC.cond rfl (fun hb5 => ?_) (fun hb5 => ?_)
    · have hr := cond_t hb5 hr
      refine WC.then ?_
      refine WC.region [(0, true), (1, true)] rfl ?_
      refine WO.assign rfl rfl rfl rfl ?_
      refine WO.assign rfl rfl rfl rfl ?_
      refine WO.done ?_
      refine At.seq_wc ?_
      refine WC.ret ?_
      refine At.seq_ret ?_
      obtain rfl := Option.some.inj hr
      exact At.ret (fun a w hc hs => (resVs_cons (hc.res rfl) (resVs_cons (hc.res rfl) resVs_nil))) (fun w hs => .inl ⟨rfl, rfl, hs⟩)
    · have hr := cond_f hb5 hr
      refine WC.skip ?_
      refine At.seq_wc ?_
      refine WC.then ?_
      refine WC.region [(0, true), (1, true), (2, true), (3, false), (4, true), (5, false), (6, true), (7, true)] rfl ?_
      refine WO.move rfl rfl rfl rfl ?_
      refine WO.move rfl rfl rfl rfl ?_
      refine WO.move rfl rfl rfl rfl ?_
      refine WO.makeMap (F1 := F) (enc := (fun x : Int => Value.int .i64 x)) (RV := (RV1 (RSl 1 (RInt .u8)))) rfl rfl rfl (fun _ _ _ => trivial) (fun b6 p8 hm9 => ?_)
      refine WO.build (vs := [.tmp 21, .tmp 22, .tmp 23, .tmp 24]) [0, 1, 2, 10] (.agg (List.toArray [.int .i64 p0, .int .i64 v2, .int .i64 v3, .int .i64 0, .int .i64 0, .int .i64 0, .int .i64 0, .int .i64 0, .slice none 0 0, .int .i64 0, .map (some b6), .bool false])) rfl rfl rfl rfl rfl (fun _ => by kernel_rfl) ?_
      refine WO.box rfl rfl rfl rfl rfl (fun _ _ _ => trivial) (fun b10 => ?_)
      refine WO.assign rfl rfl rfl rfl ?_
      refine WO.assign rfl rfl rfl rfl ?_
      refine WO.done ?_
      refine At.seq_wc ?_
      refine WC.ret ?_
      refine At.empty ?_
      have ho13 : OwnL 3 R_link_body F 79 none 0 ([] : List S_link_body) [] := OwnL.nil
      obtain rfl := Option.some.inj hr
      exact At.ret (fun a w hc hs => (resVs_cons (hc.res rfl) (resVs_cons (hc.res rfl) resVs_nil))) (fun w hs => .inr ⟨_, _, _, _, _, _, _, rfl, rfl, (hs.arrange 0 3 [] [1, 0, 2] (by decide)), ho13, hm9⟩)
/-! (*peloton/link.Link).Send$1 -/
def link_Link_Send_1 (p0 : List Int) : Option Bool := some (decide ((p0.length : Int) > 65536))
theorem link_Link_Send_1_ok {F : Mem} {χ : List Chunk} {p0 : List Int} {a_0 : Option Addr} {c_0 : Nat} (h_0 : RdL 1 (RInt .u8) (Mem.add F χ) a_0 c_0 p0) {r : Bool} (hr : link_Link_Send_1 p0 = some r) (Φ : List (List Chunk)) :
    CallsRet Try.prog 27 (List.toArray [.slice a_0 p0.length c_0]) (Mem.add F χ) Φ (fun v w => v = .bool r ∧ Sat (Mem.add F χ) (Φ) w) := by
  refine CallsRet.enter (rs := [.tmp 2]) Try.func27 rfl rfl rfl rfl ?_
  unfold link_Link_Send_1 at hr
  refine WC.then ?_
  refine WC.region [(0, true)] rfl ?_
  refine WO.assign rfl rfl rfl rfl ?_
  refine WO.done ?_
  refine At.seq_wc ?_
  refine WC.then ?_
  refine WC.region [(0, true), (1, true), (2, true), (3, true)] rfl ?_
  refine WO.move rfl rfl rfl rfl ?_
  refine WO.len rfl rfl rfl rfl Try.underlying38 ?_
  refine WO.bin rfl rfl rfl rfl rfl rfl ?_
  refine WO.assign rfl rfl rfl rfl ?_
  refine WO.done ?_
  refine At.seq_wc ?_
  refine WC.ret ?_
  obtain rfl := Option.some.inj hr
  exact At.ret (fun a w hc hs => (resVs_cons (hc.res rfl) resVs_nil)) (fun w hs => ⟨rfl, hs⟩)
/-! slices.IndexFunc[[][]byte,[]byte] -/
def slices_IndexFunc_byte_byte_Flink_Link_Send_1_k1  : Option Int := some (-1)
def slices_IndexFunc_byte_byte_Flink_Link_Send_1_b2 (p0 : List (List Int)) (v6 : Int) : Option (Int ⊕ (Lp Int Unit)) := cond (decide (v6 < (p0.length : Int))) ((getI p0 v6).bind fun x11 => (link_Link_Send_1 x11).bind fun x19 => cond x19 (some (.inr (.ret v6))) (some (.inl (IntKind.wrap .i64 (v6 + 1))))) (some (.inr (.brk ())))
def slices_IndexFunc_byte_byte_Flink_Link_Send_1 (p0 : List (List Int)) : Option Int := (loopO (fun s => slices_IndexFunc_byte_byte_Flink_Link_Send_1_b2 p0 s) 0).bind (fun | .ret r => some r | .brk _ => slices_IndexFunc_byte_byte_Flink_Link_Send_1_k1 )
theorem slices_IndexFunc_byte_byte_Flink_Link_Send_1_ok {F : Mem} {χ : List Chunk} {p0 : List (List Int)} {a_0 : Option Addr} {c_0 : Nat} (h_0 : RdL 1 (RSl 1 (RInt .u8)) (Mem.add F χ) a_0 c_0 p0) {r : Int} (hr : slices_IndexFunc_byte_byte_Flink_Link_Send_1 p0 = some r) (Φ : List (List Chunk)) :
    CallsRet Try.prog 33 (List.toArray [.slice a_0 p0.length c_0, .func (.func 27) #[] #[]]) (Mem.add F χ) Φ (fun v w => v = .int .i64 r ∧ Sat (Mem.add F χ) (Φ) w) := by
  refine CallsRet.enter (rs := [.tmp 4]) Try.func33 rfl rfl rfl rfl ?_
  unfold slices_IndexFunc_byte_byte_Flink_Link_Send_1 at hr
  refine WC.then ?_
  refine WC.region [(0, true)] rfl ?_
  refine WO.assign rfl rfl rfl rfl ?_
  refine WO.done ?_
  refine At.seq_wc ?_
  refine WC.seq (fun a w => slices_IndexFunc_byte_byte_Flink_Link_Send_1_k1  = some r ∧ Ctx 19 [] a ∧ Sat (Mem.add F χ) Φ w) ?_ ?_
  · refine WC.then ?_
    refine WC.region [(0, true), (1, true), (2, true)] rfl ?_
    refine WO.move rfl rfl rfl rfl ?_
    refine WO.len rfl rfl rfl rfl Try.underlying55 ?_
    refine WO.move rfl rfl rfl rfl ?_
    refine WO.done ?_
    refine At.seq_wc ?_
    obtain ⟨xl3, hl3, hk3⟩ := bind_some' hr
    refine WC.weaken (fun a w => .brk () = xl3 ∧ Ctx 19 [] a ∧ Sat (Mem.add F χ) Φ w) ?_ ?_
    · refine WC.block ?_
      refine WC.loop (fun (v6 : Int) a w => Ctx 19 [(0, .slice a_0 p0.length c_0), (1, .func (.func 27) #[] #[]), (7, .int .i64 (p0.length : Int)), (8, .int .i64 v6)] a ∧ Sat (Mem.add F χ) Φ w) hl3 ?_ ?_
      · exact fun a w hc hs => ⟨(hc.keep (hc.keep (hc.keep (hc.keep hc.nil (t := 8) rfl) (t := 7) rfl) (t := 1) rfl) (t := 0) rfl), hs⟩
      · rintro v6 r3 hr a w ⟨hc, hs⟩
        refine WC.use hc hs ?_
        clear hc hs
        (try dsimp only at hr)
        unfold slices_IndexFunc_byte_byte_Flink_Link_Send_1_b2 at hr
        refine WC.then ?_
        refine WC.region [(0, true)] rfl ?_
        refine WO.bin rfl rfl rfl rfl rfl rfl ?_
        refine WO.done ?_
        refine At.seq_wc ?_
        refine WC.then ?_
        refine WC.cond rfl (fun hb10 => ?_) (fun hb10 => ?_)
        · have hr := cond_t hb10 hr
          refine WC.skip ?_
          refine At.seq_wc ?_
          refine WC.then ?_
          refine WC.block ?_
          refine WC.then ?_
          refine WC.region [(0, true), (1, true)] rfl ?_
          refine WO.move rfl rfl rfl rfl ?_
          refine WO.assign rfl rfl rfl rfl ?_
          refine WO.done ?_
          refine At.seq_wc ?_
          refine WC.then ?_
          refine WC.region [(0, true), (1, true), (2, true), (3, true), (4, false), (5, false)] rfl ?_
          refine WO.move rfl rfl rfl rfl ?_
          refine WO.move rfl rfl rfl rfl ?_
          refine WO.move rfl rfl rfl rfl ?_
          obtain ⟨x11, hx12, hr⟩ := bind_some' hr
          refine WO.indexR h_0 hx12 rfl rfl rfl rfl rfl rfl Try.underlying55 sz_38 ?_
          rintro b13 o14 _ hc15 ⟨a16, c17, rfl, h18⟩
          refine WO.loadPn 0 hc15 rfl rfl rfl rfl rfl sc_38 rfl ?_
          obtain ⟨x19, hx20, hr⟩ := bind_some' hr
          refine WO.call rfl rfl rfl rfl rfl cl_27 (CallsRet.lay 1 0 1 [0] [] (by decide) (Mem.add F (List.flatten [χ])) (Φ) rfl rfl (link_Link_Send_1_ok (F := F) (χ := (List.flatten [χ])) (h18.mono (mono_int _) (Mem.le_gather (Mem.add F χ) 1)) hx20 (Φ))) ?_
          rintro _ _ ⟨rfl, hs21⟩
          have hs21 := Sat.unlay F [χ] hs21
          have hs21 := (hs21.arrange 1 0 [0] [] (by decide))
          refine ⟨(Mem.add F χ), (Φ), hs21, trivial, ?_⟩
          refine WO.done ?_
          refine At.seq_wc ?_
          refine WC.cond rfl (fun hb22 => ?_) (fun hb22 => ?_)
          · have hr := cond_t hb22 hr
            refine WC.then ?_
            refine WC.region [(0, true), (1, true)] rfl ?_
            refine WO.move rfl rfl rfl rfl ?_
            refine WO.assign rfl rfl rfl rfl ?_
            refine WO.done ?_
            refine At.seq_wc ?_
            refine WC.ret ?_
            refine At.block_ret ?_
            refine At.seq_ret ?_
            refine At.round_ret hr (fun hy => ?_)
            subst hy
            have hr := hk3
            refine At.block_ret ?_
            refine At.seq_ret ?_
            refine At.seq_ret ?_
            obtain rfl := Option.some.inj hr
            exact At.ret (fun a w hc hs => (resVs_cons (hc.res rfl) resVs_nil)) (fun w hs => ⟨rfl, hs⟩)
          · have hr := cond_f hb22 hr
            refine WC.skip ?_
            refine At.block_normal ?_
            refine At.seq_wc ?_
            refine WC.region [(0, true), (1, true)] rfl ?_
            refine WO.bin rfl rfl rfl rfl rfl rfl ?_
            refine WO.move rfl rfl rfl rfl ?_
            refine WO.done ?_
            refine At.round_next hr ?_
            exact fun a w hc hs => ⟨(hc.keep (hc.keep (hc.keep (hc.keep hc.nil (t := 8) rfl) (t := 7) rfl) (t := 1) rfl) (t := 0) rfl), hs⟩
        · have hr := cond_f hb10 hr
          refine WC.exit ?_
          refine At.seq_exit ?_
          refine At.round_exit hr (fun hy => ?_)
          refine At.exit_block ?_
          refine At.seq_at ?_
          exact fun a w hc hs => ⟨hy, hc.nil, hs⟩
    · rintro a w ⟨rfl, hc, hs⟩
      refine At.use hc hs ?_
      clear hc hs
      (try dsimp only at hk3)
      have hr := hk3
      refine At.seq_at ?_
      exact fun a w hc hs => ⟨hr, hc.nil, hs⟩
  · rintro a w ⟨hr, hc, hs⟩
    refine WC.use hc hs ?_
    clear hc hs
    unfold slices_IndexFunc_byte_byte_Flink_Link_Send_1_k1 at hr
    refine WC.then ?_
    refine WC.region [(0, true)] rfl ?_
    refine WO.assign rfl rfl rfl rfl ?_
    refine WO.done ?_
    refine At.seq_wc ?_
    refine WC.ret ?_
    obtain rfl := Option.some.inj hr
    exact At.ret (fun a w hc hs => (resVs_cons (hc.res rfl) resVs_nil)) (fun w hs => ⟨rfl, hs⟩)
/-! slices.ContainsFunc[[][]byte,[]byte] -/
def slices_ContainsFunc_byte_byte_Flink_Link_Send_1 (p0 : List (List Int)) : Option Bool := (slices_IndexFunc_byte_byte_Flink_Link_Send_1 p0).bind fun x1 => some (decide (x1 ≥ 0))
theorem slices_ContainsFunc_byte_byte_Flink_Link_Send_1_ok {F : Mem} {χ : List Chunk} {p0 : List (List Int)} {a_0 : Option Addr} {c_0 : Nat} (h_0 : RdL 1 (RSl 1 (RInt .u8)) (Mem.add F χ) a_0 c_0 p0) {r : Bool} (hr : slices_ContainsFunc_byte_byte_Flink_Link_Send_1 p0 = some r) (Φ : List (List Chunk)) :
    CallsRet Try.prog 26 (List.toArray [.slice a_0 p0.length c_0, .func (.func 27) #[] #[]]) (Mem.add F χ) Φ (fun v w => v = .bool r ∧ Sat (Mem.add F χ) (Φ) w) := by
  refine CallsRet.enter (rs := [.tmp 4]) Try.func26 rfl rfl rfl rfl ?_
  unfold slices_ContainsFunc_byte_byte_Flink_Link_Send_1 at hr
  refine WC.then ?_
  refine WC.region [(0, true)] rfl ?_
  refine WO.assign rfl rfl rfl rfl ?_
  refine WO.done ?_
  refine At.seq_wc ?_
  refine WC.then ?_
  refine WC.region [(0, true), (1, true), (2, false), (3, true), (4, true)] rfl ?_
  refine WO.move rfl rfl rfl rfl ?_
  refine WO.move rfl rfl rfl rfl ?_
  obtain ⟨x1, hx2, hr⟩ := bind_some' hr
  refine WO.call rfl rfl rfl rfl rfl cl_33 (CallsRet.lay 1 0 1 [0] [] (by decide) (Mem.add F (List.flatten [χ])) (Φ) rfl rfl (slices_IndexFunc_byte_byte_Flink_Link_Send_1_ok (F := F) (χ := (List.flatten [χ])) (h_0.mono (mono_sl (mono_int _)) (Mem.le_gather (Mem.add F χ) 1)) hx2 (Φ))) ?_
  rintro _ _ ⟨rfl, hs3⟩
  have hs3 := Sat.unlay F [χ] hs3
  have hs3 := (hs3.arrange 1 0 [0] [] (by decide))
  refine ⟨(Mem.add F χ), (Φ), hs3, trivial, ?_⟩
  refine WO.bin rfl rfl rfl rfl rfl rfl ?_
  refine WO.assign rfl rfl rfl rfl ?_
  refine WO.done ?_
  refine At.seq_wc ?_
  refine WC.ret ?_
  obtain rfl := Option.some.inj hr
  exact At.ret (fun a w hc hs => (resVs_cons (hc.res rfl) resVs_nil)) (fun w hs => ⟨rfl, hs⟩)
/-! bytes.Clone -/
def bytes_Clone (p0 : List Int) : Option (List Int) := (app ([] : List Int) p0).bind fun x6 => some x6
theorem bytes_Clone_ok {F : Mem} {χ : List Chunk} {p0 : List Int} {a_0 : Option Addr} {c_0 : Nat} (h_0 : RdL 1 (RInt .u8) (Mem.add F χ) a_0 c_0 p0) {r : (List Int)} (hr : bytes_Clone p0 = some r) (Φ : List (List Chunk)) :
    CallsRet Try.prog 28 (List.toArray [.slice a_0 p0.length c_0]) (Mem.add F χ) Φ (fun v w => ∃ a0 c0 ψ0, v = .slice a0 r.length c0 ∧ Sat (Mem.add F χ) (ψ0 :: Φ) w ∧ OwnL 1 (RInt .u8) F 5 a0 c0 r ψ0) := by
  refine CallsRet.enter (rs := [.tmp 2]) Try.func28 rfl rfl rfl rfl ?_
  unfold bytes_Clone at hr
  refine WC.then ?_
  refine WC.region [(0, true)] rfl ?_
  refine WO.assign rfl rfl rfl rfl ?_
  refine WO.done ?_
  refine At.seq_wc ?_
  refine WC.then ?_
  refine WC.then ?_
  refine WC.region [(0, true), (1, true)] rfl ?_
  refine WO.move rfl rfl rfl rfl ?_
  refine WO.slNil rfl rfl rfl rfl rfl Try.underlying38 ?_
  rcases a_0 with _ | ad1
  · have z14 := RdL.ofNone h_0
    subst z14
    have hr : some ([] : List Int) = some r := by first | exact hr | simpa [app, lim] using hr
    refine WO.done ?_
    refine At.seq_wc ?_
    refine WC.condT rfl ?_
    refine WC.then ?_
    refine WC.region [(0, true)] rfl ?_
    refine WO.assign rfl rfl rfl rfl ?_
    refine WO.done ?_
    refine At.seq_wc ?_
    refine WC.ret ?_
    refine At.seq_ret ?_
    refine At.empty ?_
    have ho13 : OwnL 1 (RInt .u8) F 5 none 0 ([] : List Int) [] := OwnL.nil
    obtain rfl := Option.some.inj hr
    exact At.ret (fun a w hc hs => (resVs_cons (hc.res rfl) resVs_nil)) (fun w hs => ⟨_, _, _, rfl, hs, (OwnL.re (G := F) (const_int _) ho13)⟩)
  · refine WO.done ?_
    refine At.seq_wc ?_
    refine WC.condF rfl ?_
    refine WC.skip ?_
    refine At.seq_wc ?_
    refine WC.then ?_
    refine WC.region [(0, false), (1, true), (2, false), (3, true)] rfl ?_
    refine WO.buildSl (e := 5) (vs := []) [] [] rfl rfl rfl rfl rfl (fun _ => by kernel_rfl) (fun _ _ _ => trivial) (fun b2 => ?_)
    refine WO.move rfl rfl rfl rfl ?_
    have ho4 : OwnL 1 (RInt .u8) F 5 (some ⟨b2, 0, none⟩) 0 ([] : List Int) [(b2, row [] 5)] := ⟨Nat.le_refl _, .inr ⟨_, [], [], rfl, rfl, Rs.nil, rfl⟩⟩
    obtain ⟨x6, hx7, hr⟩ := bind_some' hr
    refine WO.append 0 (OwnL.re (G := (Mem.add F χ)) (const_int _) ho4) rfl (SrcL.ofRd Try.underlying38 h_0 (Mem.le_refl _)) hx7 rfl rfl rfl rfl rfl rfl Try.underlying38 el_5 (fun _ _ _ => trivial) (fun a8 c9 p10 ho11 => ?_)
    refine WO.assign rfl rfl rfl rfl ?_
    refine WO.done ?_
    refine At.seq_wc ?_
    refine WC.ret ?_
    obtain rfl := Option.some.inj hr
    exact At.ret (fun a w hc hs => (resVs_cons (hc.res rfl) resVs_nil)) (fun w hs => ⟨_, _, _, rfl, hs, (OwnL.re (G := F) (const_int _) ho11)⟩)
/-! (*peloton/link.Link).Send -/
def link_Link_Send_vvvvvvvvovmv_k1 (v7 : S_link_Link) : Option (Int × S_link_Link) := some (0, v7)
def link_Link_Send_vvvvvvvvovmv_b2 (p1 : List (List Int)) (v31 : Int) (v32 : S_link_Link) : Option ((Int × S_link_Link) ⊕ S_link_Link) := cond (decide (v31 < (p1.length : Int))) ((getI p1 v31).bind fun x66 => (bytes_Clone x66).bind fun x74 => (app v32.out [(⟨(IntKind.wrap .i64 (v32.next + 1)), (-1), x74⟩ : S_link_body)]).bind fun x85 => some (.inl ((IntKind.wrap .i64 (v31 + 1)), (⟨v32.window, v32.span, v32.room, v32.epoch, v32.now, (IntKind.wrap .i64 (v32.next + 1)), v32.acked, v32.sent, x85, v32.got, v32.early, v32.owes⟩ : S_link_Link)))) (some (.inr v32))
def link_Link_Send_vvvvvvvvovmv (p0 : S_link_Link) (p1 : List (List Int)) : Option (Int × S_link_Link) := (slices_ContainsFunc_byte_byte_Flink_Link_Send_1 p1).bind fun x1 => cond x1 (some (140, p0)) (cond (decide ((p1.length : Int) > (IntKind.wrap .i64 (p0.room - (p0.out.length : Int))))) (some (80, p0)) ((loopO (fun s => link_Link_Send_vvvvvvvvovmv_b2 p1 s.1 s.2) (0, p0)).bind (fun v55 => link_Link_Send_vvvvvvvvovmv_k1 v55)))
theorem link_Link_Send_vvvvvvvvovmv_ok {F : Mem} {χ : List Chunk} {p0 : S_link_Link} {p1 : List (List Int)} {b_0 : Nat} {a_0_8 : Option Addr} {c_0_8 : Nat} {ψ_0_8 : List Chunk} (ho_0_8 : OwnL 3 R_link_body F 79 a_0_8 c_0_8 p0.out ψ_0_8) {bm_0_10 : Nat} {ψ_0_10 : List Chunk} (hm_0_10 : OwnM (fun x : Int => Value.int .i64 x) (RV1 (RSl 1 (RInt .u8))) F bm_0_10 p0.early ψ_0_10) {a_1 : Option Addr} {c_1 : Nat} (h_1 : RdL 1 (RSl 1 (RInt .u8)) (Mem.add F χ) a_1 c_1 p1) {r : Int × S_link_Link} (hr : link_Link_Send_vvvvvvvvovmv p0 p1 = some r) (Φ : List (List Chunk)) :
    CallsRet Try.prog 13 (List.toArray [.pointer (some ⟨b_0, 0, none⟩), .slice a_1 p1.length c_1]) (Mem.add F χ) ([(b_0, row [.int .i64 p0.window, .int .i64 p0.span, .int .i64 p0.room, .int .i64 p0.epoch, .int .i64 p0.now, .int .i64 p0.next, .int .i64 p0.acked, .int .i64 p0.sent, .slice a_0_8 p0.out.length c_0_8, .int .i64 p0.got, .map (some bm_0_10), .bool p0.owes] 74)] :: ψ_0_8 :: ψ_0_10 :: Φ) (fun v w => ∃ ψm a0_8 c0_8 ψ0_8 bm0_10 ψ0_10, v = .int .i64 r.1 ∧ Sat (Mem.add (Mem.add F χ) ψm) ([(b_0, row [.int .i64 r.2.window, .int .i64 r.2.span, .int .i64 r.2.room, .int .i64 r.2.epoch, .int .i64 r.2.now, .int .i64 r.2.next, .int .i64 r.2.acked, .int .i64 r.2.sent, .slice a0_8 r.2.out.length c0_8, .int .i64 r.2.got, .map (some bm0_10), .bool r.2.owes] 74)] :: ψ0_8 :: ψ0_10 :: Φ) w ∧ OwnL 3 R_link_body (Mem.add F ψm) 79 a0_8 c0_8 r.2.out ψ0_8 ∧ OwnM (fun x : Int => Value.int .i64 x) (RV1 (RSl 1 (RInt .u8))) (Mem.add F ψm) bm0_10 r.2.early ψ0_10) := by
  refine CallsRet.enter (rs := [.tmp 4]) Try.func13 rfl rfl rfl rfl ?_
  unfold link_Link_Send_vvvvvvvvovmv at hr
  refine WC.then ?_
  refine WC.region [(0, true)] rfl ?_
  refine WO.assign rfl rfl rfl rfl ?_
  refine WO.done ?_
  refine At.seq_wc ?_
  refine WC.then ?_
  refine WC.block ?_
  refine WC.then ?_
  refine WC.region [(0, true), (1, false), (2, true)] rfl ?_
  refine WO.move rfl rfl rfl rfl ?_
  obtain ⟨x1, hx2, hr⟩ := bind_some' hr
  refine WO.call rfl rfl rfl rfl rfl cl_26 (CallsRet.lay 1 3 1 [0] [1, 2, 3] (by decide) (Mem.add F (List.flatten [χ])) ([(b_0, row [.int .i64 p0.window, .int .i64 p0.span, .int .i64 p0.room, .int .i64 p0.epoch, .int .i64 p0.now, .int .i64 p0.next, .int .i64 p0.acked, .int .i64 p0.sent, .slice a_0_8 p0.out.length c_0_8, .int .i64 p0.got, .map (some bm_0_10), .bool p0.owes] 74)] :: ψ_0_8 :: ψ_0_10 :: Φ) rfl rfl (slices_ContainsFunc_byte_byte_Flink_Link_Send_1_ok (F := F) (χ := (List.flatten [χ])) (h_1.mono (mono_sl (mono_int _)) (Mem.le_gather (Mem.add F χ) 1)) hx2 ([(b_0, row [.int .i64 p0.window, .int .i64 p0.span, .int .i64 p0.room, .int .i64 p0.epoch, .int .i64 p0.now, .int .i64 p0.next, .int .i64 p0.acked, .int .i64 p0.sent, .slice a_0_8 p0.out.length c_0_8, .int .i64 p0.got, .map (some bm_0_10), .bool p0.owes] 74)] :: ψ_0_8 :: ψ_0_10 :: Φ))) ?_
  rintro _ _ ⟨rfl, hs3⟩
  have hs3 := Sat.unlay F [χ] hs3
  have hs3 := (hs3.arrange 1 3 [0] [1, 2, 3] (by decide))
  refine ⟨(Mem.add F χ), ([(b_0, row [.int .i64 p0.window, .int .i64 p0.span, .int .i64 p0.room, .int .i64 p0.epoch, .int .i64 p0.now, .int .i64 p0.next, .int .i64 p0.acked, .int .i64 p0.sent, .slice a_0_8 p0.out.length c_0_8, .int .i64 p0.got, .map (some bm_0_10), .bool p0.owes] 74)] :: ψ_0_8 :: ψ_0_10 :: Φ), hs3, trivial, ?_⟩
  refine WO.assign rfl rfl rfl rfl ?_
  refine WO.done ?_
  refine At.seq_wc ?_
  refine WC.cond rfl (fun hb4 => ?_) (fun hb4 => ?_)
  · have hr := cond_t hb4 hr
    refine WC.then ?_
    refine WC.region [(0, true)] rfl ?_
    refine WO.assign rfl rfl rfl rfl ?_
    refine WO.done ?_
    refine At.seq_wc ?_
    refine WC.ret ?_
    refine At.block_ret ?_
    refine At.seq_ret ?_
    obtain rfl := Option.some.inj hr
    exact At.ret (fun a w hc hs => (resVs_cons (hc.res rfl) resVs_nil)) (fun w hs => ⟨(List.flatten []), _, _, _, _, _, rfl, (hs.gather 0), (ho_0_8.mono mono_link_body (Mem.le_gather F 0)), (hm_0_10.mono (monoV1 (mono_sl (mono_int _))) (Mem.le_gather F 0))⟩)
  · have hr := cond_f hb4 hr
    refine WC.then ?_
    refine WC.draw (Sat (Mem.add F χ) ([(b_0, row [.int .i64 p0.window, .int .i64 p0.span, .int .i64 p0.room, .int .i64 p0.epoch, .int .i64 p0.now, .int .i64 p0.next, .int .i64 p0.acked, .int .i64 p0.sent, .slice a_0_8 p0.out.length c_0_8, .int .i64 p0.got, .map (some bm_0_10), .bool p0.owes] 74)] :: ψ_0_8 :: ψ_0_10 :: Φ)) (fun _ h => (h.arrange 1 3 [0] [1, 2, 3] (by decide))) [(0, true), (1, true), (2, true), (3, true), (4, true), (5, true), (6, true), (7, true), (8, true), (9, true), (10, true), (11, true), (12, true), (13, true)] mixed (by kernel_rfl) rfl (by kernel_rfl) ?_
    refine WO.move rfl rfl rfl rfl ?_
    refine WO.len rfl rfl rfl rfl Try.underlying55 ?_
    refine WO.move rfl rfl rfl rfl ?_
    refine WO.nilCheck rfl rfl rfl rfl ?_
    refine WO.fieldAddr 2 rfl rfl rfl rfl fl_74_2 ?_
    refine WO.loadY 0 rfl rfl rfl rfl sc_3 rfl rfl ?_
    refine WO.move rfl rfl rfl rfl ?_
    refine WO.nilCheck rfl rfl rfl rfl ?_
    refine WO.fieldAddr 8 rfl rfl rfl rfl fl_74_8 ?_
    refine WO.loadY 0 rfl rfl rfl rfl sc_72 rfl rfl ?_
    refine WO.len rfl rfl rfl rfl Try.underlying72 ?_
    refine WO.bin rfl rfl rfl rfl rfl rfl ?_
    refine WO.bin rfl rfl rfl rfl rfl rfl ?_
    refine WO.assign rfl rfl rfl rfl ?_
    refine WO.done ?_
    refine At.seq_wc ?_
    refine WC.cond rfl (fun hb5 => ?_) (fun hb5 => ?_)
    · have hr := cond_t hb5 hr
      refine WC.then ?_
      refine WC.region [(0, true)] rfl ?_
      refine WO.assign rfl rfl rfl rfl ?_
      refine WO.done ?_
      refine At.seq_wc ?_
      refine WC.ret ?_
      refine At.block_ret ?_
      refine At.seq_ret ?_
      obtain rfl := Option.some.inj hr
      exact At.ret (fun a w hc hs => (resVs_cons (hc.res rfl) resVs_nil)) (fun w hs => ⟨(List.flatten []), _, _, _, _, _, rfl, (hs.gather 0), (ho_0_8.mono mono_link_body (Mem.le_gather F 0)), (hm_0_10.mono (monoV1 (mono_sl (mono_int _))) (Mem.le_gather F 0))⟩)
    · have hr := cond_f hb5 hr
      refine WC.skip ?_
      refine At.block_normal ?_
      refine At.seq_wc ?_
      refine WC.seq (fun a w => ∃ (v7 : S_link_Link) (a8 : Option Addr) (c9 : Nat) (p10 : List Chunk) (b13 : Nat) (p14 : List Chunk) (w6 : List Chunk), link_Link_Send_vvvvvvvvovmv_k1 v7 = some r ∧ Ctx 54 [] a ∧ Sat (Mem.add (Mem.add F χ) w6) (p10 :: p14 :: [(b_0, row [.int .i64 v7.window, .int .i64 v7.span, .int .i64 v7.room, .int .i64 v7.epoch, .int .i64 v7.now, .int .i64 v7.next, .int .i64 v7.acked, .int .i64 v7.sent, .slice a8 v7.out.length c9, .int .i64 v7.got, .map (some b13), .bool v7.owes] 74)] :: Φ) w ∧ OwnL 3 R_link_body (Mem.add F w6) 79 a8 c9 v7.out p10 ∧ OwnM (fun x : Int => Value.int .i64 x) (RV1 (RSl 1 (RInt .u8))) F b13 v7.early p14) ?_ ?_
      · refine WC.then ?_
        refine WC.region [(0, true), (1, true), (2, true)] rfl ?_
        refine WO.move rfl rfl rfl rfl ?_
        refine WO.len rfl rfl rfl rfl Try.underlying55 ?_
        refine WO.move rfl rfl rfl rfl ?_
        refine WO.done ?_
        refine At.seq_wc ?_
        obtain ⟨xl3, hl3, hk3⟩ := bind_some' hr
        refine WC.weaken (fun a w => ∃ (v55 : S_link_Link) (a56 : Option Addr) (c57 : Nat) (p58 : List Chunk) (b61 : Nat) (p62 : List Chunk) (w54 : List Chunk), v55 = xl3 ∧ Ctx 54 [] a ∧ Sat (Mem.add (Mem.add F χ) w54) (p58 :: p62 :: [(b_0, row [.int .i64 v55.window, .int .i64 v55.span, .int .i64 v55.room, .int .i64 v55.epoch, .int .i64 v55.now, .int .i64 v55.next, .int .i64 v55.acked, .int .i64 v55.sent, .slice a56 v55.out.length c57, .int .i64 v55.got, .map (some b61), .bool v55.owes] 74)] :: Φ) w ∧ OwnL 3 R_link_body (Mem.add F w54) 79 a56 c57 v55.out p58 ∧ OwnM (fun x : Int => Value.int .i64 x) (RV1 (RSl 1 (RInt .u8))) F b61 v55.early p62) ?_ ?_
        · refine WC.block ?_
          refine WC.loop (fun ⟨v31, v32⟩ a w => ∃ (a33 : Option Addr) (c34 : Nat) (p35 : List Chunk) (b38 : Nat) (p39 : List Chunk) (w30 : List Chunk), Ctx 54 [(0, .pointer (some ⟨b_0, 0, none⟩)), (24, .slice a_1 p1.length c_1), (25, .int .i64 (p1.length : Int)), (26, .int .i64 v31)] a ∧ Sat (Mem.add (Mem.add F χ) w30) (p35 :: p39 :: [(b_0, row [.int .i64 v32.window, .int .i64 v32.span, .int .i64 v32.room, .int .i64 v32.epoch, .int .i64 v32.now, .int .i64 v32.next, .int .i64 v32.acked, .int .i64 v32.sent, .slice a33 v32.out.length c34, .int .i64 v32.got, .map (some b38), .bool v32.owes] 74)] :: Φ) w ∧ OwnL 3 R_link_body (Mem.add F w30) 79 a33 c34 v32.out p35 ∧ OwnM (fun x : Int => Value.int .i64 x) (RV1 (RSl 1 (RInt .u8))) F b38 v32.early p39) hl3 ?_ ?_
          · exact fun a w hc hs => ⟨a_0_8, c_0_8, ψ_0_8, bm_0_10, ψ_0_10, (List.flatten []), (hc.keep (hc.keep (hc.keep (hc.keep hc.nil (t := 26) rfl) (t := 25) rfl) (t := 24) rfl) (t := 0) rfl), ((hs.arrange 1 3 [0] [2, 3, 1] (by decide)).gather 0), (ho_0_8.mono mono_link_body (Mem.le_gather F 0)), hm_0_10⟩
          · rintro ⟨v31, v32⟩ r3 hr a w ⟨a33, c34, p35, b38, p39, w30, hc, hs, ho36, hm40⟩
            refine WC.use hc hs ?_
            clear hc hs
            (try dsimp only at hr)
            unfold link_Link_Send_vvvvvvvvovmv_b2 at hr
            refine WC.then ?_
            refine WC.region [(0, true)] rfl ?_
            refine WO.bin rfl rfl rfl rfl rfl rfl ?_
            refine WO.done ?_
            refine At.seq_wc ?_
            refine WC.then ?_
            refine WC.cond rfl (fun hb65 => ?_) (fun hb65 => ?_)
            · have hr := cond_t hb65 hr
              refine WC.skip ?_
              refine At.seq_wc ?_
              refine WC.then ?_
              refine WC.block ?_
              refine WC.then ?_
              refine WC.region [(0, true), (1, false), (2, true)] rfl ?_
              obtain ⟨x66, hx67, hr⟩ := bind_some' hr
              refine WO.indexR h_1 hx67 rfl rfl rfl rfl rfl rfl Try.underlying55 sz_38 ?_
              rintro b68 o69 _ hc70 ⟨a71, c72, rfl, h73⟩
              refine WO.loadPn 0 (hc70.mono (Mem.le_pick (Mem.add (Mem.add F χ) w30) 2 [1] (by decide))) rfl rfl rfl rfl rfl sc_38 rfl ?_
              refine WO.assign rfl rfl rfl rfl ?_
              refine WO.done ?_
              refine At.seq_wc ?_
              refine WC.then ?_
              refine WC.region [(0, true), (1, true), (2, true), (3, false), (4, true), (5, true), (6, true), (7, false)] rfl ?_
              refine WO.move rfl rfl rfl rfl ?_
              refine WO.nilCheck rfl rfl rfl rfl ?_
              refine WO.fieldAddr 5 rfl rfl rfl rfl fl_74_5 ?_
              refine WO.load 2 rfl rfl rfl rfl sc_3 rfl rfl ?_
              refine WO.bin rfl rfl rfl rfl rfl rfl ?_
              refine WO.nilCheck rfl rfl rfl rfl ?_
              refine WO.fieldAddr 5 rfl rfl rfl rfl fl_74_5 ?_
              refine WO.store 2 rfl rfl rfl rfl sz_3 rfl rfl rfl (fun _ _ => trivial) ?_
              refine WO.done ?_
              refine At.seq_wc ?_
              refine WC.drawA (Sat (Mem.add (Mem.add F χ) w30) (Φ)) (fun _ h => (h.arrange 2 3 [0, 1] [] (by decide))) mixed rfl ?_
              refine WA.lin (fuel := 9) [(0, true), (1, true), (2, true), (3, true), (5, true), (6, true), (7, true), (9, true)] (by kernel_rfl) (by kernel_rfl) ?_
              refine WO.move rfl rfl rfl rfl ?_
              refine WO.move rfl rfl rfl rfl ?_
              refine WO.nilCheck rfl rfl rfl rfl ?_
              refine WO.fieldAddr 8 rfl rfl rfl rfl fl_74_8 ?_
              refine WO.move rfl rfl rfl rfl ?_
              refine WO.nilCheck rfl rfl rfl rfl ?_
              refine WO.fieldAddr 5 rfl rfl rfl rfl fl_74_5 ?_
              refine WO.move rfl rfl rfl rfl ?_
              refine WO.done ?_
              refine WA.of ?_
              refine WA.three (fuel := 8) 4 8 10 (by kernel_rfl) ?_ ?_ ?_
              · refine WO.load 2 rfl rfl rfl rfl sc_72 rfl rfl ?_
                refine WO.done ?_
                refine WA.of ?_
                refine WA.two (fuel := 7) 8 10 (by kernel_rfl) ?_ ?_
                · refine WO.load 2 rfl rfl rfl rfl sc_3 rfl rfl ?_
                  refine WO.done ?_
                  refine WA.of ?_
                  refine WA.lin (fuel := 0) [(10, false), (11, true), (12, false), (13, false), (14, true), (15, true), (16, false)] (by kernel_rfl) (by kernel_rfl) ?_
                  obtain ⟨x74, hx75, hr⟩ := bind_some' hr
                  refine WO.call rfl rfl rfl rfl rfl cl_28 (CallsRet.lay 2 3 1 [1] [0, 2, 3, 4] (by decide) (Mem.add F (List.flatten [χ])) (w30 :: p35 :: p39 :: [(b_0, row [.int .i64 v32.window, .int .i64 v32.span, .int .i64 v32.room, .int .i64 v32.epoch, .int .i64 v32.now, .int .i64 (IntKind.wrap .i64 (v32.next + 1)), .int .i64 v32.acked, .int .i64 v32.sent, .slice a33 v32.out.length c34, .int .i64 v32.got, .map (some b38), .bool v32.owes] 74)] :: Φ) rfl rfl (bytes_Clone_ok (F := F) (χ := (List.flatten [χ])) (h73.mono (mono_int _) (Mem.le_gather (Mem.add F χ) 1)) hx75 (w30 :: p35 :: p39 :: [(b_0, row [.int .i64 v32.window, .int .i64 v32.span, .int .i64 v32.room, .int .i64 v32.epoch, .int .i64 v32.now, .int .i64 (IntKind.wrap .i64 (v32.next + 1)), .int .i64 v32.acked, .int .i64 v32.sent, .slice a33 v32.out.length c34, .int .i64 v32.got, .map (some b38), .bool v32.owes] 74)] :: Φ))) ?_
                  rintro _ _ ⟨a76, c77, p79, rfl, hs81, h78⟩
                  have hs81 := Sat.unlay F [χ] hs81
                  have hs81 := (hs81.arrange 1 5 [2, 0] [1, 3, 4, 5] (by decide))
                  refine ⟨(Mem.add (Mem.add F χ) w30), (p79 :: p35 :: p39 :: [(b_0, row [.int .i64 v32.window, .int .i64 v32.span, .int .i64 v32.room, .int .i64 v32.epoch, .int .i64 v32.now, .int .i64 (IntKind.wrap .i64 (v32.next + 1)), .int .i64 v32.acked, .int .i64 v32.sent, .slice a33 v32.out.length c34, .int .i64 v32.got, .map (some b38), .bool v32.owes] 74)] :: Φ), hs81, (hs81.arrange 2 4 [0, 1] [] (by decide)), ?_⟩
                  refine WO.build (vs := [.tmp 45, .const (.int .i64 (-1)), .tmp 47]) [0, 1, 2] (.agg (List.toArray [.int .i64 (IntKind.wrap .i64 (v32.next + 1)), .int .i64 (-1), .slice a76 x74.length c77])) rfl rfl rfl rfl rfl (fun _ => by kernel_rfl) ?_
                  refine WO.buildSl (e := 79) (vs := [.tmp 48]) [0] [.int .i64 (IntKind.wrap .i64 (v32.next + 1)), .int .i64 (-1), .slice a76 x74.length c77] rfl rfl rfl rfl rfl (fun _ => by kernel_rfl) (fun _ _ h => (h.arrange 2 5 [0, 1] [] (by decide))) (fun b82 => ?_)
                  refine WO.freeze 1 rfl ?_
                  have hz84 := (OwnL.re (G := F) (const_int _) h78).rd (mono_int _)
                  obtain ⟨x85, hx86, hr⟩ := bind_some' hr
                  refine WO.append 1 (ho36.mono mono_link_body (Mem.le_pick (Mem.add (Mem.add F w30) p79) 2 [1] (by decide))) rfl (SrcL.ofRow 0 Try.underlying72 [[.int .i64 (IntKind.wrap .i64 (v32.next + 1)), .int .i64 (-1), .slice a76 x74.length c77]] rfl rfl rfl (Rs.cons (x := (⟨(IntKind.wrap .i64 (v32.next + 1)), (-1), x74⟩ : S_link_body)) (cs := [.int .i64 (IntKind.wrap .i64 (v32.next + 1)), .int .i64 (-1), .slice a76 x74.length c77]) rfl ⟨_, _, rfl, (hz84.mono (mono_int _) (Mem.le_pick (Mem.add (Mem.add F w30) p79) 2 [0] (by decide)))⟩ rfl Rs.nil)) hx86 rfl rfl rfl rfl rfl rfl Try.underlying72 el_79 (fun _ _ h => (h.arrange 3 4 [1, 2] [] (by decide))) (fun a87 c88 p89 ho90 => ?_)
                  refine WO.nilCheck rfl rfl rfl rfl ?_
                  refine WO.fieldAddr 8 rfl rfl rfl rfl fl_74_8 ?_
                  refine WO.store 3 rfl rfl rfl rfl sz_72 rfl rfl rfl (fun _ h => (h.arrange 3 4 [1, 2] [] (by decide))) ?_
                  refine WO.done ?_
                  refine WA.of ?_
                  refine WA.done (by kernel_rfl) ?_
                  refine At.block_normal ?_
                  refine At.seq_wc ?_
                  refine WC.region [(0, true), (1, true)] rfl ?_
                  refine WO.bin rfl rfl rfl rfl rfl rfl ?_
                  refine WO.move rfl rfl rfl rfl ?_
                  refine WO.done ?_
                  refine At.round_next hr ?_
                  exact fun a w hc hs => ⟨a87, c88, p89, b38, p39, (List.flatten [p79, w30]), (hc.keep (hc.keep (hc.keep (hc.keep hc.nil (t := 26) rfl) (t := 25) rfl) (t := 24) rfl) (t := 0) rfl), ((hs.arrange 3 4 [0, 1, 2] [4, 5, 6] (by decide)).gather 2), (ho90.mono mono_link_body (Mem.le_gather (Mem.add (Mem.add F w30) p79) 2)), hm40⟩
                · obtain ⟨x74, hx75, hr⟩ := bind_some' hr
                  refine WO.call rfl rfl rfl rfl rfl cl_28 (CallsRet.lay 2 3 1 [1] [0, 2, 3, 4] (by decide) (Mem.add F (List.flatten [χ])) (w30 :: p35 :: p39 :: [(b_0, row [.int .i64 v32.window, .int .i64 v32.span, .int .i64 v32.room, .int .i64 v32.epoch, .int .i64 v32.now, .int .i64 (IntKind.wrap .i64 (v32.next + 1)), .int .i64 v32.acked, .int .i64 v32.sent, .slice a33 v32.out.length c34, .int .i64 v32.got, .map (some b38), .bool v32.owes] 74)] :: Φ) rfl rfl (bytes_Clone_ok (F := F) (χ := (List.flatten [χ])) (h73.mono (mono_int _) (Mem.le_gather (Mem.add F χ) 1)) hx75 (w30 :: p35 :: p39 :: [(b_0, row [.int .i64 v32.window, .int .i64 v32.span, .int .i64 v32.room, .int .i64 v32.epoch, .int .i64 v32.now, .int .i64 (IntKind.wrap .i64 (v32.next + 1)), .int .i64 v32.acked, .int .i64 v32.sent, .slice a33 v32.out.length c34, .int .i64 v32.got, .map (some b38), .bool v32.owes] 74)] :: Φ))) ?_
                  rintro _ _ ⟨a76, c77, p79, rfl, hs81, h78⟩
                  have hs81 := Sat.unlay F [χ] hs81
                  have hs81 := (hs81.arrange 1 5 [2, 0] [1, 3, 4, 5] (by decide))
                  refine ⟨(Mem.add (Mem.add F χ) w30), (p79 :: p35 :: p39 :: [(b_0, row [.int .i64 v32.window, .int .i64 v32.span, .int .i64 v32.room, .int .i64 v32.epoch, .int .i64 v32.now, .int .i64 (IntKind.wrap .i64 (v32.next + 1)), .int .i64 v32.acked, .int .i64 v32.sent, .slice a33 v32.out.length c34, .int .i64 v32.got, .map (some b38), .bool v32.owes] 74)] :: Φ), hs81, (hs81.arrange 2 4 [0, 1] [] (by decide)), ?_⟩
                  refine WO.done ?_
                  refine WA.of ?_
                  refine WA.lin (fuel := 0) [(8, false), (11, true), (12, false), (13, false), (14, true), (15, true), (16, false)] (by kernel_rfl) (by kernel_rfl) ?_
                  refine WO.load 3 rfl rfl rfl rfl sc_3 rfl rfl ?_
                  refine WO.build (vs := [.tmp 45, .const (.int .i64 (-1)), .tmp 47]) [0, 1, 2] (.agg (List.toArray [.int .i64 (IntKind.wrap .i64 (v32.next + 1)), .int .i64 (-1), .slice a76 x74.length c77])) rfl rfl rfl rfl rfl (fun _ => by kernel_rfl) ?_
                  refine WO.buildSl (e := 79) (vs := [.tmp 48]) [0] [.int .i64 (IntKind.wrap .i64 (v32.next + 1)), .int .i64 (-1), .slice a76 x74.length c77] rfl rfl rfl rfl rfl (fun _ => by kernel_rfl) (fun _ _ h => (h.arrange 2 5 [0, 1] [] (by decide))) (fun b82 => ?_)
                  refine WO.freeze 1 rfl ?_
                  have hz84 := (OwnL.re (G := F) (const_int _) h78).rd (mono_int _)
                  obtain ⟨x85, hx86, hr⟩ := bind_some' hr
                  refine WO.append 1 (ho36.mono mono_link_body (Mem.le_pick (Mem.add (Mem.add F w30) p79) 2 [1] (by decide))) rfl (SrcL.ofRow 0 Try.underlying72 [[.int .i64 (IntKind.wrap .i64 (v32.next + 1)), .int .i64 (-1), .slice a76 x74.length c77]] rfl rfl rfl (Rs.cons (x := (⟨(IntKind.wrap .i64 (v32.next + 1)), (-1), x74⟩ : S_link_body)) (cs := [.int .i64 (IntKind.wrap .i64 (v32.next + 1)), .int .i64 (-1), .slice a76 x74.length c77]) rfl ⟨_, _, rfl, (hz84.mono (mono_int _) (Mem.le_pick (Mem.add (Mem.add F w30) p79) 2 [0] (by decide)))⟩ rfl Rs.nil)) hx86 rfl rfl rfl rfl rfl rfl Try.underlying72 el_79 (fun _ _ h => (h.arrange 3 4 [1, 2] [] (by decide))) (fun a87 c88 p89 ho90 => ?_)
                  refine WO.nilCheck rfl rfl rfl rfl ?_
                  refine WO.fieldAddr 8 rfl rfl rfl rfl fl_74_8 ?_
                  refine WO.store 3 rfl rfl rfl rfl sz_72 rfl rfl rfl (fun _ h => (h.arrange 3 4 [1, 2] [] (by decide))) ?_
                  refine WO.done ?_
                  refine WA.of ?_
                  refine WA.done (by kernel_rfl) ?_
                  refine At.block_normal ?_
                  refine At.seq_wc ?_
                  refine WC.region [(0, true), (1, true)] rfl ?_
                  refine WO.bin rfl rfl rfl rfl rfl rfl ?_
                  refine WO.move rfl rfl rfl rfl ?_
                  refine WO.done ?_
                  refine At.round_next hr ?_
                  exact fun a w hc hs => ⟨a87, c88, p89, b38, p39, (List.flatten [p79, w30]), (hc.keep (hc.keep (hc.keep (hc.keep hc.nil (t := 26) rfl) (t := 25) rfl) (t := 24) rfl) (t := 0) rfl), ((hs.arrange 3 4 [0, 1, 2] [4, 5, 6] (by decide)).gather 2), (ho90.mono mono_link_body (Mem.le_gather (Mem.add (Mem.add F w30) p79) 2)), hm40⟩
              · refine WO.load 2 rfl rfl rfl rfl sc_3 rfl rfl ?_
                refine WO.done ?_
                refine WA.of ?_
                refine WA.two (fuel := 7) 4 10 (by kernel_rfl) ?_ ?_
                · refine WO.load 2 rfl rfl rfl rfl sc_72 rfl rfl ?_
                  refine WO.done ?_
                  refine WA.of ?_
                  refine WA.lin (fuel := 0) [(10, false), (11, true), (12, false), (13, false), (14, true), (15, true), (16, false)] (by kernel_rfl) (by kernel_rfl) ?_
                  obtain ⟨x74, hx75, hr⟩ := bind_some' hr
                  refine WO.call rfl rfl rfl rfl rfl cl_28 (CallsRet.lay 2 3 1 [1] [0, 2, 3, 4] (by decide) (Mem.add F (List.flatten [χ])) (w30 :: p35 :: p39 :: [(b_0, row [.int .i64 v32.window, .int .i64 v32.span, .int .i64 v32.room, .int .i64 v32.epoch, .int .i64 v32.now, .int .i64 (IntKind.wrap .i64 (v32.next + 1)), .int .i64 v32.acked, .int .i64 v32.sent, .slice a33 v32.out.length c34, .int .i64 v32.got, .map (some b38), .bool v32.owes] 74)] :: Φ) rfl rfl (bytes_Clone_ok (F := F) (χ := (List.flatten [χ])) (h73.mono (mono_int _) (Mem.le_gather (Mem.add F χ) 1)) hx75 (w30 :: p35 :: p39 :: [(b_0, row [.int .i64 v32.window, .int .i64 v32.span, .int .i64 v32.room, .int .i64 v32.epoch, .int .i64 v32.now, .int .i64 (IntKind.wrap .i64 (v32.next + 1)), .int .i64 v32.acked, .int .i64 v32.sent, .slice a33 v32.out.length c34, .int .i64 v32.got, .map (some b38), .bool v32.owes] 74)] :: Φ))) ?_
                  rintro _ _ ⟨a76, c77, p79, rfl, hs81, h78⟩
                  have hs81 := Sat.unlay F [χ] hs81
                  have hs81 := (hs81.arrange 1 5 [2, 0] [1, 3, 4, 5] (by decide))
                  refine ⟨(Mem.add (Mem.add F χ) w30), (p79 :: p35 :: p39 :: [(b_0, row [.int .i64 v32.window, .int .i64 v32.span, .int .i64 v32.room, .int .i64 v32.epoch, .int .i64 v32.now, .int .i64 (IntKind.wrap .i64 (v32.next + 1)), .int .i64 v32.acked, .int .i64 v32.sent, .slice a33 v32.out.length c34, .int .i64 v32.got, .map (some b38), .bool v32.owes] 74)] :: Φ), hs81, (hs81.arrange 2 4 [0, 1] [] (by decide)), ?_⟩
                  refine WO.build (vs := [.tmp 45, .const (.int .i64 (-1)), .tmp 47]) [0, 1, 2] (.agg (List.toArray [.int .i64 (IntKind.wrap .i64 (v32.next + 1)), .int .i64 (-1), .slice a76 x74.length c77])) rfl rfl rfl rfl rfl (fun _ => by kernel_rfl) ?_
                  refine WO.buildSl (e := 79) (vs := [.tmp 48]) [0] [.int .i64 (IntKind.wrap .i64 (v32.next + 1)), .int .i64 (-1), .slice a76 x74.length c77] rfl rfl rfl rfl rfl (fun _ => by kernel_rfl) (fun _ _ h => (h.arrange 2 5 [0, 1] [] (by decide))) (fun b82 => ?_)
                  refine WO.freeze 1 rfl ?_
                  have hz84 := (OwnL.re (G := F) (const_int _) h78).rd (mono_int _)
                  obtain ⟨x85, hx86, hr⟩ := bind_some' hr
                  refine WO.append 1 (ho36.mono mono_link_body (Mem.le_pick (Mem.add (Mem.add F w30) p79) 2 [1] (by decide))) rfl (SrcL.ofRow 0 Try.underlying72 [[.int .i64 (IntKind.wrap .i64 (v32.next + 1)), .int .i64 (-1), .slice a76 x74.length c77]] rfl rfl rfl (Rs.cons (x := (⟨(IntKind.wrap .i64 (v32.next + 1)), (-1), x74⟩ : S_link_body)) (cs := [.int .i64 (IntKind.wrap .i64 (v32.next + 1)), .int .i64 (-1), .slice a76 x74.length c77]) rfl ⟨_, _, rfl, (hz84.mono (mono_int _) (Mem.le_pick (Mem.add (Mem.add F w30) p79) 2 [0] (by decide)))⟩ rfl Rs.nil)) hx86 rfl rfl rfl rfl rfl rfl Try.underlying72 el_79 (fun _ _ h => (h.arrange 3 4 [1, 2] [] (by decide))) (fun a87 c88 p89 ho90 => ?_)
                  refine WO.nilCheck rfl rfl rfl rfl ?_
                  refine WO.fieldAddr 8 rfl rfl rfl rfl fl_74_8 ?_
                  refine WO.store 3 rfl rfl rfl rfl sz_72 rfl rfl rfl (fun _ h => (h.arrange 3 4 [1, 2] [] (by decide))) ?_
                  refine WO.done ?_
                  refine WA.of ?_
                  refine WA.done (by kernel_rfl) ?_
                  refine At.block_normal ?_
                  refine At.seq_wc ?_
                  refine WC.region [(0, true), (1, true)] rfl ?_
                  refine WO.bin rfl rfl rfl rfl rfl rfl ?_
                  refine WO.move rfl rfl rfl rfl ?_
                  refine WO.done ?_
                  refine At.round_next hr ?_
                  exact fun a w hc hs => ⟨a87, c88, p89, b38, p39, (List.flatten [p79, w30]), (hc.keep (hc.keep (hc.keep (hc.keep hc.nil (t := 26) rfl) (t := 25) rfl) (t := 24) rfl) (t := 0) rfl), ((hs.arrange 3 4 [0, 1, 2] [4, 5, 6] (by decide)).gather 2), (ho90.mono mono_link_body (Mem.le_gather (Mem.add (Mem.add F w30) p79) 2)), hm40⟩
                · obtain ⟨x74, hx75, hr⟩ := bind_some' hr
                  refine WO.call rfl rfl rfl rfl rfl cl_28 (CallsRet.lay 2 3 1 [1] [0, 2, 3, 4] (by decide) (Mem.add F (List.flatten [χ])) (w30 :: p35 :: p39 :: [(b_0, row [.int .i64 v32.window, .int .i64 v32.span, .int .i64 v32.room, .int .i64 v32.epoch, .int .i64 v32.now, .int .i64 (IntKind.wrap .i64 (v32.next + 1)), .int .i64 v32.acked, .int .i64 v32.sent, .slice a33 v32.out.length c34, .int .i64 v32.got, .map (some b38), .bool v32.owes] 74)] :: Φ) rfl rfl (bytes_Clone_ok (F := F) (χ := (List.flatten [χ])) (h73.mono (mono_int _) (Mem.le_gather (Mem.add F χ) 1)) hx75 (w30 :: p35 :: p39 :: [(b_0, row [.int .i64 v32.window, .int .i64 v32.span, .int .i64 v32.room, .int .i64 v32.epoch, .int .i64 v32.now, .int .i64 (IntKind.wrap .i64 (v32.next + 1)), .int .i64 v32.acked, .int .i64 v32.sent, .slice a33 v32.out.length c34, .int .i64 v32.got, .map (some b38), .bool v32.owes] 74)] :: Φ))) ?_
                  rintro _ _ ⟨a76, c77, p79, rfl, hs81, h78⟩
                  have hs81 := Sat.unlay F [χ] hs81
                  have hs81 := (hs81.arrange 1 5 [2, 0] [1, 3, 4, 5] (by decide))
                  refine ⟨(Mem.add (Mem.add F χ) w30), (p79 :: p35 :: p39 :: [(b_0, row [.int .i64 v32.window, .int .i64 v32.span, .int .i64 v32.room, .int .i64 v32.epoch, .int .i64 v32.now, .int .i64 (IntKind.wrap .i64 (v32.next + 1)), .int .i64 v32.acked, .int .i64 v32.sent, .slice a33 v32.out.length c34, .int .i64 v32.got, .map (some b38), .bool v32.owes] 74)] :: Φ), hs81, (hs81.arrange 2 4 [0, 1] [] (by decide)), ?_⟩
                  refine WO.done ?_
                  refine WA.of ?_
                  refine WA.lin (fuel := 6) [(11, true)] (by kernel_rfl) (by kernel_rfl) ?_
                  refine WO.build (vs := [.tmp 45, .const (.int .i64 (-1)), .tmp 47]) [0, 1, 2] (.agg (List.toArray [.int .i64 (IntKind.wrap .i64 (v32.next + 1)), .int .i64 (-1), .slice a76 x74.length c77])) rfl rfl rfl rfl rfl (fun _ => by kernel_rfl) ?_
                  refine WO.done ?_
                  refine WA.of ?_
                  refine WA.two (fuel := 5) 4 12 (by kernel_rfl) ?_ ?_
                  · refine WO.load 3 rfl rfl rfl rfl sc_72 rfl rfl ?_
                    refine WO.done ?_
                    refine WA.of ?_
                    refine WA.lin (fuel := 0) [(12, false), (13, false), (14, true), (15, true), (16, false)] (by kernel_rfl) (by kernel_rfl) ?_
                    refine WO.buildSl (e := 79) (vs := [.tmp 48]) [0] [.int .i64 (IntKind.wrap .i64 (v32.next + 1)), .int .i64 (-1), .slice a76 x74.length c77] rfl rfl rfl rfl rfl (fun _ => by kernel_rfl) (fun _ _ h => (h.arrange 2 5 [0, 1] [] (by decide))) (fun b82 => ?_)
                    refine WO.freeze 1 rfl ?_
                    have hz84 := (OwnL.re (G := F) (const_int _) h78).rd (mono_int _)
                    obtain ⟨x85, hx86, hr⟩ := bind_some' hr
                    refine WO.append 1 (ho36.mono mono_link_body (Mem.le_pick (Mem.add (Mem.add F w30) p79) 2 [1] (by decide))) rfl (SrcL.ofRow 0 Try.underlying72 [[.int .i64 (IntKind.wrap .i64 (v32.next + 1)), .int .i64 (-1), .slice a76 x74.length c77]] rfl rfl rfl (Rs.cons (x := (⟨(IntKind.wrap .i64 (v32.next + 1)), (-1), x74⟩ : S_link_body)) (cs := [.int .i64 (IntKind.wrap .i64 (v32.next + 1)), .int .i64 (-1), .slice a76 x74.length c77]) rfl ⟨_, _, rfl, (hz84.mono (mono_int _) (Mem.le_pick (Mem.add (Mem.add F w30) p79) 2 [0] (by decide)))⟩ rfl Rs.nil)) hx86 rfl rfl rfl rfl rfl rfl Try.underlying72 el_79 (fun _ _ h => (h.arrange 3 4 [1, 2] [] (by decide))) (fun a87 c88 p89 ho90 => ?_)
                    refine WO.nilCheck rfl rfl rfl rfl ?_
                    refine WO.fieldAddr 8 rfl rfl rfl rfl fl_74_8 ?_
                    refine WO.store 3 rfl rfl rfl rfl sz_72 rfl rfl rfl (fun _ h => (h.arrange 3 4 [1, 2] [] (by decide))) ?_
                    refine WO.done ?_
                    refine WA.of ?_
                    refine WA.done (by kernel_rfl) ?_
                    refine At.block_normal ?_
                    refine At.seq_wc ?_
                    refine WC.region [(0, true), (1, true)] rfl ?_
                    refine WO.bin rfl rfl rfl rfl rfl rfl ?_
                    refine WO.move rfl rfl rfl rfl ?_
                    refine WO.done ?_
                    refine At.round_next hr ?_
                    exact fun a w hc hs => ⟨a87, c88, p89, b38, p39, (List.flatten [p79, w30]), (hc.keep (hc.keep (hc.keep (hc.keep hc.nil (t := 26) rfl) (t := 25) rfl) (t := 24) rfl) (t := 0) rfl), ((hs.arrange 3 4 [0, 1, 2] [4, 5, 6] (by decide)).gather 2), (ho90.mono mono_link_body (Mem.le_gather (Mem.add (Mem.add F w30) p79) 2)), hm40⟩
                  · refine WO.buildSl (e := 79) (vs := [.tmp 48]) [0] [.int .i64 (IntKind.wrap .i64 (v32.next + 1)), .int .i64 (-1), .slice a76 x74.length c77] rfl rfl rfl rfl rfl (fun _ => by kernel_rfl) (fun _ _ h => (h.arrange 2 5 [0, 1] [] (by decide))) (fun b82 => ?_)
                    refine WO.done ?_
                    refine WA.of ?_
                    refine WA.lin (fuel := 0) [(4, false), (13, false), (14, true), (15, true), (16, false)] (by kernel_rfl) (by kernel_rfl) ?_
                    refine WO.load 4 rfl rfl rfl rfl sc_72 rfl rfl ?_
                    refine WO.freeze 1 rfl ?_
                    have hz84 := (OwnL.re (G := F) (const_int _) h78).rd (mono_int _)
                    obtain ⟨x85, hx86, hr⟩ := bind_some' hr
                    refine WO.append 1 (ho36.mono mono_link_body (Mem.le_pick (Mem.add (Mem.add F w30) p79) 2 [1] (by decide))) rfl (SrcL.ofRow 0 Try.underlying72 [[.int .i64 (IntKind.wrap .i64 (v32.next + 1)), .int .i64 (-1), .slice a76 x74.length c77]] rfl rfl rfl (Rs.cons (x := (⟨(IntKind.wrap .i64 (v32.next + 1)), (-1), x74⟩ : S_link_body)) (cs := [.int .i64 (IntKind.wrap .i64 (v32.next + 1)), .int .i64 (-1), .slice a76 x74.length c77]) rfl ⟨_, _, rfl, (hz84.mono (mono_int _) (Mem.le_pick (Mem.add (Mem.add F w30) p79) 2 [0] (by decide)))⟩ rfl Rs.nil)) hx86 rfl rfl rfl rfl rfl rfl Try.underlying72 el_79 (fun _ _ h => (h.arrange 3 4 [1, 2] [] (by decide))) (fun a87 c88 p89 ho90 => ?_)
                    refine WO.nilCheck rfl rfl rfl rfl ?_
                    refine WO.fieldAddr 8 rfl rfl rfl rfl fl_74_8 ?_
                    refine WO.store 3 rfl rfl rfl rfl sz_72 rfl rfl rfl (fun _ h => (h.arrange 3 4 [1, 2] [] (by decide))) ?_
                    refine WO.done ?_
                    refine WA.of ?_
                    refine WA.done (by kernel_rfl) ?_
                    refine At.block_normal ?_
                    refine At.seq_wc ?_
                    refine WC.region [(0, true), (1, true)] rfl ?_
                    refine WO.bin rfl rfl rfl rfl rfl rfl ?_
                    refine WO.move rfl rfl rfl rfl ?_
                    refine WO.done ?_
                    refine At.round_next hr ?_
                    exact fun a w hc hs => ⟨a87, c88, p89, b38, p39, (List.flatten [p79, w30]), (hc.keep (hc.keep (hc.keep (hc.keep hc.nil (t := 26) rfl) (t := 25) rfl) (t := 24) rfl) (t := 0) rfl), ((hs.arrange 3 4 [0, 1, 2] [4, 5, 6] (by decide)).gather 2), (ho90.mono mono_link_body (Mem.le_gather (Mem.add (Mem.add F w30) p79) 2)), hm40⟩
              · obtain ⟨x74, hx75, hr⟩ := bind_some' hr
                refine WO.call rfl rfl rfl rfl rfl cl_28 (CallsRet.lay 2 3 1 [1] [0, 2, 3, 4] (by decide) (Mem.add F (List.flatten [χ])) (w30 :: p35 :: p39 :: [(b_0, row [.int .i64 v32.window, .int .i64 v32.span, .int .i64 v32.room, .int .i64 v32.epoch, .int .i64 v32.now, .int .i64 (IntKind.wrap .i64 (v32.next + 1)), .int .i64 v32.acked, .int .i64 v32.sent, .slice a33 v32.out.length c34, .int .i64 v32.got, .map (some b38), .bool v32.owes] 74)] :: Φ) rfl rfl (bytes_Clone_ok (F := F) (χ := (List.flatten [χ])) (h73.mono (mono_int _) (Mem.le_gather (Mem.add F χ) 1)) hx75 (w30 :: p35 :: p39 :: [(b_0, row [.int .i64 v32.window, .int .i64 v32.span, .int .i64 v32.room, .int .i64 v32.epoch, .int .i64 v32.now, .int .i64 (IntKind.wrap .i64 (v32.next + 1)), .int .i64 v32.acked, .int .i64 v32.sent, .slice a33 v32.out.length c34, .int .i64 v32.got, .map (some b38), .bool v32.owes] 74)] :: Φ))) ?_
                rintro _ _ ⟨a76, c77, p79, rfl, hs81, h78⟩
                have hs81 := Sat.unlay F [χ] hs81
                have hs81 := (hs81.arrange 1 5 [2, 0] [1, 3, 4, 5] (by decide))
                refine ⟨(Mem.add (Mem.add F χ) w30), (p79 :: p35 :: p39 :: [(b_0, row [.int .i64 v32.window, .int .i64 v32.span, .int .i64 v32.room, .int .i64 v32.epoch, .int .i64 v32.now, .int .i64 (IntKind.wrap .i64 (v32.next + 1)), .int .i64 v32.acked, .int .i64 v32.sent, .slice a33 v32.out.length c34, .int .i64 v32.got, .map (some b38), .bool v32.owes] 74)] :: Φ), hs81, (hs81.arrange 2 4 [0, 1] [] (by decide)), ?_⟩
                refine WO.done ?_
                refine WA.of ?_
                refine WA.two (fuel := 7) 4 8 (by kernel_rfl) ?_ ?_
                · refine WO.load 3 rfl rfl rfl rfl sc_72 rfl rfl ?_
                  refine WO.done ?_
                  refine WA.of ?_
                  refine WA.lin (fuel := 0) [(8, false), (11, true), (12, false), (13, false), (14, true), (15, true), (16, false)] (by kernel_rfl) (by kernel_rfl) ?_
                  refine WO.load 3 rfl rfl rfl rfl sc_3 rfl rfl ?_
                  refine WO.build (vs := [.tmp 45, .const (.int .i64 (-1)), .tmp 47]) [0, 1, 2] (.agg (List.toArray [.int .i64 (IntKind.wrap .i64 (v32.next + 1)), .int .i64 (-1), .slice a76 x74.length c77])) rfl rfl rfl rfl rfl (fun _ => by kernel_rfl) ?_
                  refine WO.buildSl (e := 79) (vs := [.tmp 48]) [0] [.int .i64 (IntKind.wrap .i64 (v32.next + 1)), .int .i64 (-1), .slice a76 x74.length c77] rfl rfl rfl rfl rfl (fun _ => by kernel_rfl) (fun _ _ h => (h.arrange 2 5 [0, 1] [] (by decide))) (fun b82 => ?_)
                  refine WO.freeze 1 rfl ?_
                  have hz84 := (OwnL.re (G := F) (const_int _) h78).rd (mono_int _)
                  obtain ⟨x85, hx86, hr⟩ := bind_some' hr
                  refine WO.append 1 (ho36.mono mono_link_body (Mem.le_pick (Mem.add (Mem.add F w30) p79) 2 [1] (by decide))) rfl (SrcL.ofRow 0 Try.underlying72 [[.int .i64 (IntKind.wrap .i64 (v32.next + 1)), .int .i64 (-1), .slice a76 x74.length c77]] rfl rfl rfl (Rs.cons (x := (⟨(IntKind.wrap .i64 (v32.next + 1)), (-1), x74⟩ : S_link_body)) (cs := [.int .i64 (IntKind.wrap .i64 (v32.next + 1)), .int .i64 (-1), .slice a76 x74.length c77]) rfl ⟨_, _, rfl, (hz84.mono (mono_int _) (Mem.le_pick (Mem.add (Mem.add F w30) p79) 2 [0] (by decide)))⟩ rfl Rs.nil)) hx86 rfl rfl rfl rfl rfl rfl Try.underlying72 el_79 (fun _ _ h => (h.arrange 3 4 [1, 2] [] (by decide))) (fun a87 c88 p89 ho90 => ?_)
                  refine WO.nilCheck rfl rfl rfl rfl ?_
                  refine WO.fieldAddr 8 rfl rfl rfl rfl fl_74_8 ?_
                  refine WO.store 3 rfl rfl rfl rfl sz_72 rfl rfl rfl (fun _ h => (h.arrange 3 4 [1, 2] [] (by decide))) ?_
                  refine WO.done ?_
                  refine WA.of ?_
                  refine WA.done (by kernel_rfl) ?_
                  refine At.block_normal ?_
                  refine At.seq_wc ?_
                  refine WC.region [(0, true), (1, true)] rfl ?_
                  refine WO.bin rfl rfl rfl rfl rfl rfl ?_
                  refine WO.move rfl rfl rfl rfl ?_
                  refine WO.done ?_
                  refine At.round_next hr ?_
                  exact fun a w hc hs => ⟨a87, c88, p89, b38, p39, (List.flatten [p79, w30]), (hc.keep (hc.keep (hc.keep (hc.keep hc.nil (t := 26) rfl) (t := 25) rfl) (t := 24) rfl) (t := 0) rfl), ((hs.arrange 3 4 [0, 1, 2] [4, 5, 6] (by decide)).gather 2), (ho90.mono mono_link_body (Mem.le_gather (Mem.add (Mem.add F w30) p79) 2)), hm40⟩
                · refine WO.load 3 rfl rfl rfl rfl sc_3 rfl rfl ?_
                  refine WO.done ?_
                  refine WA.of ?_
                  refine WA.lin (fuel := 6) [(11, true)] (by kernel_rfl) (by kernel_rfl) ?_
                  refine WO.build (vs := [.tmp 45, .const (.int .i64 (-1)), .tmp 47]) [0, 1, 2] (.agg (List.toArray [.int .i64 (IntKind.wrap .i64 (v32.next + 1)), .int .i64 (-1), .slice a76 x74.length c77])) rfl rfl rfl rfl rfl (fun _ => by kernel_rfl) ?_
                  refine WO.done ?_
                  refine WA.of ?_
                  refine WA.two (fuel := 5) 4 12 (by kernel_rfl) ?_ ?_
                  · refine WO.load 3 rfl rfl rfl rfl sc_72 rfl rfl ?_
                    refine WO.done ?_
                    refine WA.of ?_
                    refine WA.lin (fuel := 0) [(12, false), (13, false), (14, true), (15, true), (16, false)] (by kernel_rfl) (by kernel_rfl) ?_
                    refine WO.buildSl (e := 79) (vs := [.tmp 48]) [0] [.int .i64 (IntKind.wrap .i64 (v32.next + 1)), .int .i64 (-1), .slice a76 x74.length c77] rfl rfl rfl rfl rfl (fun _ => by kernel_rfl) (fun _ _ h => (h.arrange 2 5 [0, 1] [] (by decide))) (fun b82 => ?_)
                    refine WO.freeze 1 rfl ?_
                    have hz84 := (OwnL.re (G := F) (const_int _) h78).rd (mono_int _)
                    obtain ⟨x85, hx86, hr⟩ := bind_some' hr
                    refine WO.append 1 (ho36.mono mono_link_body (Mem.le_pick (Mem.add (Mem.add F w30) p79) 2 [1] (by decide))) rfl (SrcL.ofRow 0 Try.underlying72 [[.int .i64 (IntKind.wrap .i64 (v32.next + 1)), .int .i64 (-1), .slice a76 x74.length c77]] rfl rfl rfl (Rs.cons (x := (⟨(IntKind.wrap .i64 (v32.next + 1)), (-1), x74⟩ : S_link_body)) (cs := [.int .i64 (IntKind.wrap .i64 (v32.next + 1)), .int .i64 (-1), .slice a76 x74.length c77]) rfl ⟨_, _, rfl, (hz84.mono (mono_int _) (Mem.le_pick (Mem.add (Mem.add F w30) p79) 2 [0] (by decide)))⟩ rfl Rs.nil)) hx86 rfl rfl rfl rfl rfl rfl Try.underlying72 el_79 (fun _ _ h => (h.arrange 3 4 [1, 2] [] (by decide))) (fun a87 c88 p89 ho90 => ?_)
                    refine WO.nilCheck rfl rfl rfl rfl ?_
                    refine WO.fieldAddr 8 rfl rfl rfl rfl fl_74_8 ?_
                    refine WO.store 3 rfl rfl rfl rfl sz_72 rfl rfl rfl (fun _ h => (h.arrange 3 4 [1, 2] [] (by decide))) ?_
                    refine WO.done ?_
                    refine WA.of ?_
                    refine WA.done (by kernel_rfl) ?_
                    refine At.block_normal ?_
                    refine At.seq_wc ?_
                    refine WC.region [(0, true), (1, true)] rfl ?_
                    refine WO.bin rfl rfl rfl rfl rfl rfl ?_
                    refine WO.move rfl rfl rfl rfl ?_
                    refine WO.done ?_
                    refine At.round_next hr ?_
                    exact fun a w hc hs => ⟨a87, c88, p89, b38, p39, (List.flatten [p79, w30]), (hc.keep (hc.keep (hc.keep (hc.keep hc.nil (t := 26) rfl) (t := 25) rfl) (t := 24) rfl) (t := 0) rfl), ((hs.arrange 3 4 [0, 1, 2] [4, 5, 6] (by decide)).gather 2), (ho90.mono mono_link_body (Mem.le_gather (Mem.add (Mem.add F w30) p79) 2)), hm40⟩
                  · refine WO.buildSl (e := 79) (vs := [.tmp 48]) [0] [.int .i64 (IntKind.wrap .i64 (v32.next + 1)), .int .i64 (-1), .slice a76 x74.length c77] rfl rfl rfl rfl rfl (fun _ => by kernel_rfl) (fun _ _ h => (h.arrange 2 5 [0, 1] [] (by decide))) (fun b82 => ?_)
                    refine WO.done ?_
                    refine WA.of ?_
                    refine WA.lin (fuel := 0) [(4, false), (13, false), (14, true), (15, true), (16, false)] (by kernel_rfl) (by kernel_rfl) ?_
                    refine WO.load 4 rfl rfl rfl rfl sc_72 rfl rfl ?_
                    refine WO.freeze 1 rfl ?_
                    have hz84 := (OwnL.re (G := F) (const_int _) h78).rd (mono_int _)
                    obtain ⟨x85, hx86, hr⟩ := bind_some' hr
                    refine WO.append 1 (ho36.mono mono_link_body (Mem.le_pick (Mem.add (Mem.add F w30) p79) 2 [1] (by decide))) rfl (SrcL.ofRow 0 Try.underlying72 [[.int .i64 (IntKind.wrap .i64 (v32.next + 1)), .int .i64 (-1), .slice a76 x74.length c77]] rfl rfl rfl (Rs.cons (x := (⟨(IntKind.wrap .i64 (v32.next + 1)), (-1), x74⟩ : S_link_body)) (cs := [.int .i64 (IntKind.wrap .i64 (v32.next + 1)), .int .i64 (-1), .slice a76 x74.length c77]) rfl ⟨_, _, rfl, (hz84.mono (mono_int _) (Mem.le_pick (Mem.add (Mem.add F w30) p79) 2 [0] (by decide)))⟩ rfl Rs.nil)) hx86 rfl rfl rfl rfl rfl rfl Try.underlying72 el_79 (fun _ _ h => (h.arrange 3 4 [1, 2] [] (by decide))) (fun a87 c88 p89 ho90 => ?_)
                    refine WO.nilCheck rfl rfl rfl rfl ?_
                    refine WO.fieldAddr 8 rfl rfl rfl rfl fl_74_8 ?_
                    refine WO.store 3 rfl rfl rfl rfl sz_72 rfl rfl rfl (fun _ h => (h.arrange 3 4 [1, 2] [] (by decide))) ?_
                    refine WO.done ?_
                    refine WA.of ?_
                    refine WA.done (by kernel_rfl) ?_
                    refine At.block_normal ?_
                    refine At.seq_wc ?_
                    refine WC.region [(0, true), (1, true)] rfl ?_
                    refine WO.bin rfl rfl rfl rfl rfl rfl ?_
                    refine WO.move rfl rfl rfl rfl ?_
                    refine WO.done ?_
                    refine At.round_next hr ?_
                    exact fun a w hc hs => ⟨a87, c88, p89, b38, p39, (List.flatten [p79, w30]), (hc.keep (hc.keep (hc.keep (hc.keep hc.nil (t := 26) rfl) (t := 25) rfl) (t := 24) rfl) (t := 0) rfl), ((hs.arrange 3 4 [0, 1, 2] [4, 5, 6] (by decide)).gather 2), (ho90.mono mono_link_body (Mem.le_gather (Mem.add (Mem.add F w30) p79) 2)), hm40⟩
            · have hr := cond_f hb65 hr
              refine WC.exit ?_
              refine At.seq_exit ?_
              refine At.round_exit hr (fun hy => ?_)
              refine At.exit_block ?_
              refine At.seq_at ?_
              exact fun a w hc hs => ⟨v32, a33, c34, p35, b38, p39, (List.flatten [w30]), hy, hc.nil, (hs.gather 1), (ho36.mono mono_link_body (Mem.le_gather (Mem.add F w30) 1)), hm40⟩
        · rintro a w ⟨v55, a56, c57, p58, b61, p62, w54, rfl, hc, hs, ho59, hm63⟩
          refine At.use hc hs ?_
          clear hc hs
          (try dsimp only at hk3)
          have hr := hk3
          refine At.seq_at ?_
          exact fun a w hc hs => ⟨v55, a56, c57, p58, b61, p62, (List.flatten [w54]), hr, hc.nil, (hs.gather 1), (ho59.mono mono_link_body (Mem.le_gather (Mem.add F w54) 1)), hm63⟩
      · rintro a w ⟨v7, a8, c9, p10, b13, p14, w6, hr, hc, hs, ho11, hm15⟩
        refine WC.use hc hs ?_
        clear hc hs
        unfold link_Link_Send_vvvvvvvvovmv_k1 at hr
        refine WC.then ?_
        refine WC.region [(0, true)] rfl ?_
        refine WO.assign rfl rfl rfl rfl ?_
        refine WO.done ?_
        refine At.seq_wc ?_
        refine WC.ret ?_
        obtain rfl := Option.some.inj hr
        exact At.ret (fun a w hc hs => (resVs_cons (hc.res rfl) resVs_nil)) (fun w hs => ⟨(List.flatten [w6]), _, _, _, _, _, rfl, ((hs.arrange 2 3 [0, 1] [4, 2, 3] (by decide)).gather 1), (ho11.mono mono_link_body (Mem.le_gather (Mem.add F w6) 1)), (hm15.mono (monoV1 (mono_sl (mono_int _))) (Mem.le.trans (Mem.le_pick (Mem.add F w6) 1 [] (by decide)) (Mem.le_gather (Mem.add F w6) 1)))⟩)
/-! (*peloton/link.Link).Tick -/
def link_Link_Tick_vvvvvvvvovmv_k2 (v8 : S_link_Link) (v19 : List S_api_Seg) : Option ((List S_api_Seg) × S_link_Link) := some (v19, (⟨v8.window, v8.span, v8.room, v8.epoch, v8.now, v8.next, v8.acked, v8.sent, v8.out, v8.got, v8.early, false⟩ : S_link_Link))
def link_Link_Tick_vvvvvvvvovmv_k3 (v2 : List S_api_Seg) (v8 : S_link_Link) (v26 : Bool) : Option ((List S_api_Seg) × S_link_Link) := cond v26 ((app v2 [(⟨v8.epoch, 0, v8.got, []⟩ : S_api_Seg)]).bind fun x30 => link_Link_Tick_vvvvvvvvovmv_k2 v8 x30) (link_Link_Tick_vvvvvvvvovmv_k2 v8 v2)
def link_Link_Tick_vvvvvvvvovmv_k1 (v2 : List S_api_Seg) (v8 : S_link_Link) : Option ((List S_api_Seg) × S_link_Link) := cond ((v2.length : Int) == 0) (link_Link_Tick_vvvvvvvvovmv_k3 v2 v8 v8.owes) (link_Link_Tick_vvvvvvvvovmv_k3 v2 v8 false)
def link_Link_Tick_vvvvvvvvovmv_k6 (v63 : Int) (v111 : List S_api_Seg) (v117 : S_link_Link) : Option (((List S_api_Seg) × Int × S_link_Link) ⊕ ((List S_api_Seg) × S_link_Link)) := some (.inl (v111, (IntKind.wrap .i64 (v63 + 1)), v117))
def link_Link_Tick_vvvvvvvvovmv_k7 (v57 : List S_api_Seg) (v63 : Int) (v64 : S_link_Link) (x127 : S_link_body) (v139 : Bool) : Option (((List S_api_Seg) × Int × S_link_Link) ⊕ ((List S_api_Seg) × S_link_Link)) := cond v139 ((bytes_Clone x127.b).bind fun x144 => (app v57 [(⟨v64.epoch, x127.seq, v64.got, x144⟩ : S_api_Seg)]).bind fun x155 => link_Link_Tick_vvvvvvvvovmv_k6 v63 x155 (⟨v64.window, v64.span, v64.room, v64.epoch, v64.now, v64.next, v64.acked, (if x127.seq > v64.sent then x127.seq else v64.sent), (List.set v64.out (Int.toNat v63) (⟨x127.seq, v64.now, x127.b⟩ : S_link_body)), v64.got, v64.early, v64.owes⟩ : S_link_Link)) (link_Link_Tick_vvvvvvvvovmv_k6 v63 v57 v64)
def link_Link_Tick_vvvvvvvvovmv_b4 (p0 : S_link_Link) (v57 : List S_api_Seg) (v63 : Int) (v64 : S_link_Link) : Option (((List S_api_Seg) × Int × S_link_Link) ⊕ ((List S_api_Seg) × S_link_Link)) := cond (decide (v63 < (p0.out.length : Int))) ((getI v64.out v63).bind fun x127 => cond (decide (x127.seq > (IntKind.wrap .i64 (v64.acked + v64.window)))) (some (.inr (v57, v64))) (cond (decide (x127.at_ < 0)) (link_Link_Tick_vvvvvvvvovmv_k7 v57 v63 v64 x127 true) (link_Link_Tick_vvvvvvvvovmv_k7 v57 v63 v64 x127 (decide ((IntKind.wrap .i64 (v64.now - x127.at_)) ≥ v64.span))))) (some (.inr (v57, v64)))
def link_Link_Tick_vvvvvvvvovmv (p0 : S_link_Link) : Option ((List S_api_Seg) × S_link_Link) := (loopO (fun s => link_Link_Tick_vvvvvvvvovmv_b4 p0 s.1 s.2.1 s.2.2) (([] : List S_api_Seg), 0, (⟨p0.window, p0.span, p0.room, p0.epoch, (IntKind.wrap .i64 (p0.now + 1)), p0.next, p0.acked, p0.sent, p0.out, p0.got, p0.early, p0.owes⟩ : S_link_Link))).bind (fun (v93, v99) => link_Link_Tick_vvvvvvvvovmv_k1 v93 v99)
theorem link_Link_Tick_vvvvvvvvovmv_ok {F : Mem} {p0 : S_link_Link} {b_0 : Nat} {a_0_8 : Option Addr} {c_0_8 : Nat} {ψ_0_8 : List Chunk} (ho_0_8 : OwnL 3 R_link_body F 79 a_0_8 c_0_8 p0.out ψ_0_8) {bm_0_10 : Nat} {ψ_0_10 : List Chunk} (hm_0_10 : OwnM (fun x : Int => Value.int .i64 x) (RV1 (RSl 1 (RInt .u8))) F bm_0_10 p0.early ψ_0_10) {r : (List S_api_Seg) × S_link_Link} (hr : link_Link_Tick_vvvvvvvvovmv p0 = some r) (Φ : List (List Chunk)) :
    CallsRet Try.prog 16 (List.toArray [.pointer (some ⟨b_0, 0, none⟩)]) F ([(b_0, row [.int .i64 p0.window, .int .i64 p0.span, .int .i64 p0.room, .int .i64 p0.epoch, .int .i64 p0.now, .int .i64 p0.next, .int .i64 p0.acked, .int .i64 p0.sent, .slice a_0_8 p0.out.length c_0_8, .int .i64 p0.got, .map (some bm_0_10), .bool p0.owes] 74)] :: ψ_0_8 :: ψ_0_10 :: Φ) (fun v w => ∃ ψm a0 c0 ψ0 a0_8 c0_8 ψ0_8 bm0_10 ψ0_10, v = .slice a0 r.1.length c0 ∧ Sat (Mem.add F ψm) (ψ0 :: [(b_0, row [.int .i64 r.2.window, .int .i64 r.2.span, .int .i64 r.2.room, .int .i64 r.2.epoch, .int .i64 r.2.now, .int .i64 r.2.next, .int .i64 r.2.acked, .int .i64 r.2.sent, .slice a0_8 r.2.out.length c0_8, .int .i64 r.2.got, .map (some bm0_10), .bool r.2.owes] 74)] :: ψ0_8 :: ψ0_10 :: Φ) w ∧ OwnL 4 R_api_Seg (Mem.add F ψm) 46 a0 c0 r.1 ψ0 ∧ OwnL 3 R_link_body (Mem.add F ψm) 79 a0_8 c0_8 r.2.out ψ0_8 ∧ OwnM (fun x : Int => Value.int .i64 x) (RV1 (RSl 1 (RInt .u8))) (Mem.add F ψm) bm0_10 r.2.early ψ0_10) := by
  refine CallsRet.enter (rs := [.tmp 2]) Try.func16 rfl rfl rfl rfl ?_
  unfold link_Link_Tick_vvvvvvvvovmv at hr
  refine WC.then ?_
  refine WC.region [(0, true)] rfl ?_
  refine WO.assign rfl rfl rfl rfl ?_
  refine WO.done ?_
  refine At.seq_wc ?_
  refine WC.then ?_
  refine WC.region [(0, true), (1, true), (2, true), (3, false), (4, true), (5, true), (6, true), (7, false)] rfl ?_
  refine WO.move rfl rfl rfl rfl ?_
  refine WO.nilCheck rfl rfl rfl rfl ?_
  refine WO.fieldAddr 4 rfl rfl rfl rfl fl_74_4 ?_
  refine WO.load 0 rfl rfl rfl rfl sc_3 rfl rfl ?_
  refine WO.bin rfl rfl rfl rfl rfl rfl ?_
  refine WO.nilCheck rfl rfl rfl rfl ?_
  refine WO.fieldAddr 4 rfl rfl rfl rfl fl_74_4 ?_
  refine WO.store 0 rfl rfl rfl rfl sz_3 rfl rfl rfl (fun _ _ => trivial) ?_
  refine WO.done ?_
  refine At.seq_wc ?_
  refine WC.then ?_
  refine WC.region [(0, true)] rfl ?_
  refine WO.assign rfl rfl rfl rfl ?_
  refine WO.done ?_
  refine At.seq_wc ?_
  refine WC.seq (fun a w => ∃ (v2 : List S_api_Seg) (v8 : S_link_Link) (a3 : Option Addr) (c4 : Nat) (p5 : List Chunk) (a9 : Option Addr) (c10 : Nat) (p11 : List Chunk) (b14 : Nat) (p15 : List Chunk) (w1 : List Chunk), link_Link_Tick_vvvvvvvvovmv_k1 v2 v8 = some r ∧ Ctx 128 [(0, .pointer (some ⟨b_0, 0, none⟩)), (3, .slice a3 v2.length c4)] a ∧ Sat (Mem.add F w1) (p5 :: p11 :: p15 :: [(b_0, row [.int .i64 v8.window, .int .i64 v8.span, .int .i64 v8.room, .int .i64 v8.epoch, .int .i64 v8.now, .int .i64 v8.next, .int .i64 v8.acked, .int .i64 v8.sent, .slice a9 v8.out.length c10, .int .i64 v8.got, .map (some b14), .bool v8.owes] 74)] :: Φ) w ∧ OwnL 4 R_api_Seg (Mem.add F w1) 46 a3 c4 v2 p5 ∧ OwnL 3 R_link_body F 79 a9 c10 v8.out p11 ∧ OwnM (fun x : Int => Value.int .i64 x) (RV1 (RSl 1 (RInt .u8))) F b14 v8.early p15) ?_ ?_
  · refine WC.then ?_
    refine WC.region [(0, true), (1, true), (2, true), (3, false), (4, true), (5, true)] rfl ?_
    refine WO.move rfl rfl rfl rfl ?_
    refine WO.nilCheck rfl rfl rfl rfl ?_
    refine WO.fieldAddr 8 rfl rfl rfl rfl fl_74_8 ?_
    refine WO.load 0 rfl rfl rfl rfl sc_72 rfl rfl ?_
    refine WO.len rfl rfl rfl rfl Try.underlying72 ?_
    refine WO.move rfl rfl rfl rfl ?_
    refine WO.done ?_
    refine At.seq_wc ?_
    obtain ⟨xl5, hl5, hk5⟩ := bind_some' hr
    refine WC.weaken (fun a w => ∃ (v93 : List S_api_Seg) (v99 : S_link_Link) (a94 : Option Addr) (c95 : Nat) (p96 : List Chunk) (a100 : Option Addr) (c101 : Nat) (p102 : List Chunk) (b105 : Nat) (p106 : List Chunk) (w92 : List Chunk), (v93, v99) = xl5 ∧ Ctx 128 [(0, .pointer (some ⟨b_0, 0, none⟩)), (3, .slice a94 v93.length c95)] a ∧ Sat (Mem.add F w92) (p96 :: p102 :: p106 :: [(b_0, row [.int .i64 v99.window, .int .i64 v99.span, .int .i64 v99.room, .int .i64 v99.epoch, .int .i64 v99.now, .int .i64 v99.next, .int .i64 v99.acked, .int .i64 v99.sent, .slice a100 v99.out.length c101, .int .i64 v99.got, .map (some b105), .bool v99.owes] 74)] :: Φ) w ∧ OwnL 4 R_api_Seg (Mem.add F w92) 46 a94 c95 v93 p96 ∧ OwnL 3 R_link_body F 79 a100 c101 v99.out p102 ∧ OwnM (fun x : Int => Value.int .i64 x) (RV1 (RSl 1 (RInt .u8))) F b105 v99.early p106) ?_ ?_
    · refine WC.block ?_
      refine WC.loop (fun ⟨v57, v63, v64⟩ a w => ∃ (a58 : Option Addr) (c59 : Nat) (p60 : List Chunk) (a65 : Option Addr) (c66 : Nat) (p67 : List Chunk) (b70 : Nat) (p71 : List Chunk) (w56 : List Chunk), Ctx 128 [(0, .pointer (some ⟨b_0, 0, none⟩)), (3, .slice a58 v57.length c59), (17, .int .i64 (p0.out.length : Int)), (18, .int .i64 v63)] a ∧ Sat (Mem.add F w56) (p60 :: p67 :: p71 :: [(b_0, row [.int .i64 v64.window, .int .i64 v64.span, .int .i64 v64.room, .int .i64 v64.epoch, .int .i64 v64.now, .int .i64 v64.next, .int .i64 v64.acked, .int .i64 v64.sent, .slice a65 v64.out.length c66, .int .i64 v64.got, .map (some b70), .bool v64.owes] 74)] :: Φ) w ∧ OwnL 4 R_api_Seg (Mem.add F w56) 46 a58 c59 v57 p60 ∧ OwnL 3 R_link_body F 79 a65 c66 v64.out p67 ∧ OwnM (fun x : Int => Value.int .i64 x) (RV1 (RSl 1 (RInt .u8))) F b70 v64.early p71) hl5 ?_ ?_
      · refine At.empty ?_
        have ho163 : OwnL 4 R_api_Seg F 46 none 0 ([] : List S_api_Seg) [] := OwnL.nil
        exact fun a w hc hs => ⟨none, 0, [], a_0_8, c_0_8, ψ_0_8, bm_0_10, ψ_0_10, (List.flatten []), (hc.keep (hc.keep (hc.keep (hc.keep hc.nil (t := 18) rfl) (t := 17) rfl) (t := 3) rfl) (t := 0) rfl), ((hs.arrange 0 4 [] [0, 2, 3, 1] (by decide)).gather 0), (ho163.mono mono_api_Seg (Mem.le_gather F 0)), ho_0_8, hm_0_10⟩
      · rintro ⟨v57, v63, v64⟩ r5 hr a w ⟨a58, c59, p60, a65, c66, p67, b70, p71, w56, hc, hs, ho61, ho68, hm72⟩
        refine WC.use hc hs ?_
        clear hc hs
        (try dsimp only at hr)
        unfold link_Link_Tick_vvvvvvvvovmv_b4 at hr
        refine WC.then ?_
        refine WC.region [(0, true)] rfl ?_
        refine WO.bin rfl rfl rfl rfl rfl rfl ?_
        refine WO.done ?_
        refine At.seq_wc ?_
        refine WC.then ?_
        refine WC.cond rfl (fun hb109 => ?_) (fun hb109 => ?_)
        · have hr := cond_t hb109 hr
          refine WC.skip ?_
          refine At.seq_wc ?_
          refine WC.seq (fun a w => ∃ (v111 : List S_api_Seg) (v117 : S_link_Link) (a112 : Option Addr) (c113 : Nat) (p114 : List Chunk) (a118 : Option Addr) (c119 : Nat) (p120 : List Chunk) (b123 : Nat) (p124 : List Chunk) (w110 : List Chunk), link_Link_Tick_vvvvvvvvovmv_k6 v63 v111 v117 = some r5 ∧ Ctx 128 [(0, .pointer (some ⟨b_0, 0, none⟩)), (3, .slice a112 v111.length c113), (17, .int .i64 (p0.out.length : Int)), (18, .int .i64 v63)] a ∧ Sat (Mem.add (Mem.add F w56) w110) (p114 :: p120 :: p124 :: [(b_0, row [.int .i64 v117.window, .int .i64 v117.span, .int .i64 v117.room, .int .i64 v117.epoch, .int .i64 v117.now, .int .i64 v117.next, .int .i64 v117.acked, .int .i64 v117.sent, .slice a118 v117.out.length c119, .int .i64 v117.got, .map (some b123), .bool v117.owes] 74)] :: Φ) w ∧ OwnL 4 R_api_Seg (Mem.add (Mem.add F w56) w110) 46 a112 c113 v111 p114 ∧ OwnL 3 R_link_body F 79 a118 c119 v117.out p120 ∧ OwnM (fun x : Int => Value.int .i64 x) (RV1 (RSl 1 (RInt .u8))) F b123 v117.early p124) ?_ ?_
          · refine WC.block ?_
            refine WC.then ?_
            refine WC.region [(0, true), (1, true)] rfl ?_
            refine WO.move rfl rfl rfl rfl ?_
            refine WO.assign rfl rfl rfl rfl ?_
            refine WO.done ?_
            refine At.seq_wc ?_
            refine WC.then ?_
            refine WC.region [(0, true), (1, true), (2, true), (3, false), (4, true), (5, true), (6, true)] rfl ?_
            refine WO.move rfl rfl rfl rfl ?_
            refine WO.nilCheck rfl rfl rfl rfl ?_
            refine WO.fieldAddr 8 rfl rfl rfl rfl fl_74_8 ?_
            refine WO.load 3 rfl rfl rfl rfl sc_72 rfl rfl ?_
            refine WO.move rfl rfl rfl rfl ?_
            obtain ⟨x127, hx128, hr⟩ := bind_some' hr
            refine WO.indexQ ho68 hx128 rfl rfl rfl rfl rfl rfl Try.underlying72 sz_79 (fun b129 cs130 hb131 h132 hq133 => ?_)
            subst hb131
            obtain ⟨a134, c135, rfl, h136⟩ := h132
            refine WO.assign rfl rfl rfl rfl ?_
            refine WO.done ?_
            refine At.seq_wc ?_
            refine WC.then ?_
            refine WC.then ?_
            refine WC.draw (Sat (Mem.add F w56) (p60 :: p67 :: p71 :: [(b_0, row [.int .i64 v64.window, .int .i64 v64.span, .int .i64 v64.room, .int .i64 v64.epoch, .int .i64 v64.now, .int .i64 v64.next, .int .i64 v64.acked, .int .i64 v64.sent, .slice (some ⟨b129, 0, none⟩) v64.out.length c66, .int .i64 v64.got, .map (some b70), .bool v64.owes] 74)] :: Φ)) (fun _ h => (h.arrange 1 4 [0] [1, 2, 3, 4] (by decide))) [(0, true), (1, true), (2, true), (3, true), (4, true), (5, true), (6, true), (7, true), (8, true), (9, true), (10, true), (11, true), (12, true), (13, true)] mixed (by kernel_rfl) rfl (by kernel_rfl) ?_
            refine WO.move rfl rfl rfl rfl ?_
            refine WO.nilCheck rfl rfl rfl rfl ?_
            refine WO.fieldAddr 0 rfl rfl rfl rfl fl_79_0 ?_
            refine WO.loadQY 1 0 hq133 rfl rfl rfl rfl rfl rfl sc_3 rfl ?_
            refine WO.move rfl rfl rfl rfl ?_
            refine WO.nilCheck rfl rfl rfl rfl ?_
            refine WO.fieldAddr 6 rfl rfl rfl rfl fl_74_6 ?_
            refine WO.loadY 3 rfl rfl rfl rfl sc_3 rfl rfl ?_
            refine WO.move rfl rfl rfl rfl ?_
            refine WO.nilCheck rfl rfl rfl rfl ?_
            refine WO.fieldAddr 0 rfl rfl rfl rfl fl_74_0 ?_
            refine WO.loadY 3 rfl rfl rfl rfl sc_3 rfl rfl ?_
            refine WO.bin rfl rfl rfl rfl rfl rfl ?_
            refine WO.bin rfl rfl rfl rfl rfl rfl ?_
            refine WO.done ?_
            refine At.seq_wc ?_
            refine WC.cond rfl (fun hb137 => ?_) (fun hb137 => ?_)
            · have hr := cond_t hb137 hr
              refine WC.exit ?_
              refine At.seq_exit ?_
              refine At.exit_outer (by decide) ?_
              refine At.seq_exit ?_
              refine At.round_exit hr (fun hy => ?_)
              refine At.exit_block ?_
              refine At.seq_at ?_
              exact fun a w hc hs => ⟨v57, v64, a58, c59, p60, (some ⟨b129, 0, none⟩), c66, p67, b70, p71, (List.flatten [w56]), hy, (hc.keep (hc.keep hc.nil (t := 3) rfl) (t := 0) rfl), (hs.gather 1), (ho61.mono mono_api_Seg (Mem.le_gather (Mem.add F w56) 1)), ho68, hm72⟩
            · have hr := cond_f hb137 hr
              refine WC.skip ?_
              refine At.seq_wc ?_
              refine WC.seq (fun a w => ∃ (v139 : Bool), link_Link_Tick_vvvvvvvvovmv_k7 v57 v63 v64 x127 v139 = some r5 ∧ Ctx 128 [(0, .pointer (some ⟨b_0, 0, none⟩)), (3, .slice a58 v57.length c59), (5, .pointer (some ⟨b129, Int.toNat v63 * 3, none⟩)), (17, .int .i64 (p0.out.length : Int)), (18, .int .i64 v63), (61, .bool v139)] a ∧ Sat (Mem.add F w56) (p60 :: p67 :: p71 :: [(b_0, row [.int .i64 v64.window, .int .i64 v64.span, .int .i64 v64.room, .int .i64 v64.epoch, .int .i64 v64.now, .int .i64 v64.next, .int .i64 v64.acked, .int .i64 v64.sent, .slice (some ⟨b129, 0, none⟩) v64.out.length c66, .int .i64 v64.got, .map (some b70), .bool v64.owes] 74)] :: Φ) w) ?_ ?_
              · refine WC.draw (Sat (Mem.add F w56) (p60 :: p67 :: p71 :: [(b_0, row [.int .i64 v64.window, .int .i64 v64.span, .int .i64 v64.room, .int .i64 v64.epoch, .int .i64 v64.now, .int .i64 v64.next, .int .i64 v64.acked, .int .i64 v64.sent, .slice (some ⟨b129, 0, none⟩) v64.out.length c66, .int .i64 v64.got, .map (some b70), .bool v64.owes] 74)] :: Φ)) (fun _ h => (h.arrange 1 4 [0] [1, 2, 3, 4] (by decide))) [(0, true), (1, true), (2, true), (3, true), (4, true), (5, true), (6, true), (7, true), (8, true), (9, true), (10, true), (11, true), (12, true), (13, true), (14, true), (15, true), (16, true), (17, true), (18, true), (19, true), (20, true)] mixed (by kernel_rfl) rfl (by kernel_rfl) ?_
                refine WO.move rfl rfl rfl rfl ?_
                refine WO.nilCheck rfl rfl rfl rfl ?_
                refine WO.fieldAddr 1 rfl rfl rfl rfl fl_79_1 ?_
                refine WO.loadQY 1 1 hq133 rfl rfl rfl rfl rfl rfl sc_3 rfl ?_
                refine WO.bin rfl rfl rfl rfl rfl rfl ?_
                refine WO.move rfl rfl rfl rfl ?_
                refine WO.split (t := 46) rfl (fun hg161 => ?_) (fun hg161 => ?_)
                · have hr := cond_t hg161 hr
                  refine WO.skip rfl rfl rfl rfl ?_
                  refine WO.skip rfl rfl rfl rfl ?_
                  refine WO.skip rfl rfl rfl rfl ?_
                  refine WO.skip rfl rfl rfl rfl ?_
                  refine WO.skip rfl rfl rfl rfl ?_
                  refine WO.skip rfl rfl rfl rfl ?_
                  refine WO.skip rfl rfl rfl rfl ?_
                  refine WO.skip rfl rfl rfl rfl ?_
                  refine WO.skip rfl rfl rfl rfl ?_
                  refine WO.skip rfl rfl rfl rfl ?_
                  refine WO.skip rfl rfl rfl rfl ?_
                  refine WO.skip rfl rfl rfl rfl ?_
                  refine WO.skip rfl rfl rfl rfl ?_
                  refine WO.skip rfl rfl rfl rfl ?_
                  refine WO.pickT rfl rfl rfl rfl rfl ?_
                  refine WO.done ?_
                  refine At.seq_at ?_
                  exact fun a w hc hs => ⟨true, hr, (hc.keep (hc.keep (hc.keep (hc.keep (hc.keep (hc.keep hc.nil (t := 61) rfl) (t := 18) rfl) (t := 17) rfl) (t := 5) rfl) (t := 3) rfl) (t := 0) rfl), hs⟩
                · have hr := cond_f hg161 hr
                  refine WO.move rfl rfl rfl rfl ?_
                  refine WO.nilCheck rfl rfl rfl rfl ?_
                  refine WO.fieldAddr 4 rfl rfl rfl rfl fl_74_4 ?_
                  refine WO.loadY 3 rfl rfl rfl rfl sc_3 rfl rfl ?_
                  refine WO.move rfl rfl rfl rfl ?_
                  refine WO.nilCheck rfl rfl rfl rfl ?_
                  refine WO.fieldAddr 1 rfl rfl rfl rfl fl_79_1 ?_
                  refine WO.loadQY 1 1 hq133 rfl rfl rfl rfl rfl rfl sc_3 rfl ?_
                  refine WO.bin rfl rfl rfl rfl rfl rfl ?_
                  refine WO.move rfl rfl rfl rfl ?_
                  refine WO.nilCheck rfl rfl rfl rfl ?_
                  refine WO.fieldAddr 1 rfl rfl rfl rfl fl_74_1 ?_
                  refine WO.loadY 3 rfl rfl rfl rfl sc_3 rfl rfl ?_
                  refine WO.bin rfl rfl rfl rfl rfl rfl ?_
                  refine WO.pickF rfl rfl rfl rfl rfl ?_
                  refine WO.done ?_
                  refine At.seq_at ?_
                  exact fun a w hc hs => ⟨(decide ((IntKind.wrap .i64 (v64.now - x127.at_)) ≥ v64.span)), hr, (hc.keep (hc.keep (hc.keep (hc.keep (hc.keep (hc.keep hc.nil (t := 61) rfl) (t := 18) rfl) (t := 17) rfl) (t := 5) rfl) (t := 3) rfl) (t := 0) rfl), hs⟩
              · rintro a w ⟨v139, hr, hc, hs⟩
                refine WC.use hc hs ?_
                clear hc hs
                unfold link_Link_Tick_vvvvvvvvovmv_k7 at hr
                refine WC.cond rfl (fun hb140 => ?_) (fun hb140 => ?_)
                · have hr := cond_t hb140 hr
                  refine WC.then ?_
                  refine WC.region [(0, true), (1, true), (2, true), (3, true), (4, false), (5, true), (6, true), (7, false)] rfl ?_
                  refine WO.move rfl rfl rfl rfl ?_
                  refine WO.move rfl rfl rfl rfl ?_
                  refine WO.nilCheck rfl rfl rfl rfl ?_
                  refine WO.fieldAddr 4 rfl rfl rfl rfl fl_74_4 ?_
                  refine WO.load 3 rfl rfl rfl rfl sc_3 rfl rfl ?_
                  refine WO.nilCheck rfl rfl rfl rfl ?_
                  refine WO.fieldAddr 1 rfl rfl rfl rfl fl_79_1 ?_
                  refine WO.storeQ 1 1 (⟨x127.seq, v64.now, x127.b⟩ : S_link_body) hq133 rfl rfl rfl rfl rfl rfl sz_3 rfl rfl ⟨_, _, rfl, h136⟩ rfl (fun _ _ _ => trivial) (fun p141 ho142 hq143 => ?_)
                  refine WO.recell 3 [.int .i64 v64.window, .int .i64 v64.span, .int .i64 v64.room, .int .i64 v64.epoch, .int .i64 v64.now, .int .i64 v64.next, .int .i64 v64.acked, .int .i64 v64.sent, .slice (some ⟨b129, 0, none⟩) ((List.set v64.out (Int.toNat v63) (⟨x127.seq, v64.now, x127.b⟩ : S_link_body)).length) c66, .int .i64 v64.got, .map (some b70), .bool v64.owes] rfl (by simp only [List.length_set]) ?_
                  refine WO.done ?_
                  refine At.seq_wc ?_
                  refine WC.then ?_
                  refine WC.drawA (Sat (Mem.add F w56) (p60 :: p71 :: Φ)) (fun _ h => (h.arrange 1 4 [0] [1, 3] (by decide))) mixed rfl ?_
                  refine WA.lin (fuel := 6) [(0, true), (1, true), (2, true), (3, true), (5, true), (6, true), (7, true)] (by kernel_rfl) (by kernel_rfl) ?_
                  refine WO.move rfl rfl rfl rfl ?_
                  refine WO.move rfl rfl rfl rfl ?_
                  refine WO.nilCheck rfl rfl rfl rfl ?_
                  refine WO.fieldAddr 7 rfl rfl rfl rfl fl_74_7 ?_
                  refine WO.move rfl rfl rfl rfl ?_
                  refine WO.nilCheck rfl rfl rfl rfl ?_
                  refine WO.fieldAddr 0 rfl rfl rfl rfl fl_79_0 ?_
                  refine WO.done ?_
                  refine WA.of ?_
                  refine WA.two (fuel := 5) 4 8 (by kernel_rfl) ?_ ?_
                  · refine WO.load 3 rfl rfl rfl rfl sc_3 rfl rfl ?_
                    refine WO.done ?_
                    refine WA.of ?_
                    refine WA.lin (fuel := 0) [(8, false), (9, true), (10, true), (11, true), (12, false)] (by kernel_rfl) (by kernel_rfl) ?_
                    refine WO.loadQ 1 0 hq143 rfl rfl rfl rfl rfl rfl sc_3 rfl ?_
                    refine WO.max2 rfl rfl rfl rfl rfl ?_
                    refine WO.nilCheck rfl rfl rfl rfl ?_
                    refine WO.fieldAddr 7 rfl rfl rfl rfl fl_74_7 ?_
                    refine WO.store 3 rfl rfl rfl rfl sz_3 rfl rfl rfl (fun _ h => (h.arrange 1 4 [0] [1, 3] (by decide))) ?_
                    refine WO.done ?_
                    refine WA.of ?_
                    refine WA.done (by kernel_rfl) ?_
                    refine At.seq_wc ?_
                    refine WC.drawA (Sat (Mem.add F w56) ([(b_0, row [.int .i64 v64.window, .int .i64 v64.span, .int .i64 v64.room, .int .i64 v64.epoch, .int .i64 v64.now, .int .i64 v64.next, .int .i64 v64.acked, .int .i64 (if x127.seq > v64.sent then x127.seq else v64.sent), .slice (some ⟨b129, 0, none⟩) ((List.set v64.out (Int.toNat v63) (⟨x127.seq, v64.now, x127.b⟩ : S_link_body)).length) c66, .int .i64 v64.got, .map (some b70), .bool v64.owes] 74)] :: Φ)) (fun _ h => (h.arrange 1 4 [0] [4] (by decide))) mixed rfl ?_
                    refine WA.lin (fuel := 7) [(0, true), (1, true), (2, true), (3, true), (4, true), (5, true), (6, true), (7, true), (9, true), (10, true), (11, true), (12, true), (13, true), (14, true), (15, true)] (by kernel_rfl) (by kernel_rfl) ?_
                    refine WO.move rfl rfl rfl rfl ?_
                    refine WO.move rfl rfl rfl rfl ?_
                    refine WO.nilCheck rfl rfl rfl rfl ?_
                    refine WO.fieldAddr 3 rfl rfl rfl rfl fl_74_3 ?_
                    refine WO.loadY 0 rfl rfl rfl rfl sc_3 rfl rfl ?_
                    refine WO.move rfl rfl rfl rfl ?_
                    refine WO.nilCheck rfl rfl rfl rfl ?_
                    refine WO.fieldAddr 0 rfl rfl rfl rfl fl_79_0 ?_
                    refine WO.move rfl rfl rfl rfl ?_
                    refine WO.nilCheck rfl rfl rfl rfl ?_
                    refine WO.fieldAddr 9 rfl rfl rfl rfl fl_74_9 ?_
                    refine WO.loadY 0 rfl rfl rfl rfl sc_3 rfl rfl ?_
                    refine WO.move rfl rfl rfl rfl ?_
                    refine WO.nilCheck rfl rfl rfl rfl ?_
                    refine WO.fieldAddr 2 rfl rfl rfl rfl fl_79_2 ?_
                    refine WO.done ?_
                    refine WA.of ?_
                    refine WA.two (fuel := 6) 8 16 (by kernel_rfl) ?_ ?_
                    · refine WO.loadQ 1 0 hq143 rfl rfl rfl rfl rfl rfl sc_3 rfl ?_
                      refine WO.done ?_
                      refine WA.of ?_
                      refine WA.lin (fuel := 0) [(16, false), (17, false), (18, true), (19, false), (20, false), (21, true)] (by kernel_rfl) (by kernel_rfl) ?_
                      refine WO.loadQ 1 2 hq143 rfl rfl rfl rfl rfl rfl sc_38 rfl ?_
                      obtain ⟨x144, hx145, hr⟩ := bind_some' hr
                      refine WO.call rfl rfl rfl rfl rfl cl_28 (CallsRet.lay 1 4 0 [] [0, 1, 2, 3, 4] (by decide) (Mem.add F (List.flatten [])) (w56 :: p60 :: p141 :: p71 :: [(b_0, row [.int .i64 v64.window, .int .i64 v64.span, .int .i64 v64.room, .int .i64 v64.epoch, .int .i64 v64.now, .int .i64 v64.next, .int .i64 v64.acked, .int .i64 (if x127.seq > v64.sent then x127.seq else v64.sent), .slice (some ⟨b129, 0, none⟩) ((List.set v64.out (Int.toNat v63) (⟨x127.seq, v64.now, x127.b⟩ : S_link_body)).length) c66, .int .i64 v64.got, .map (some b70), .bool v64.owes] 74)] :: Φ) rfl rfl (bytes_Clone_ok (F := F) (χ := (List.flatten [])) (h136.mono (mono_int _) (Mem.le_gather F 0)) hx145 (w56 :: p60 :: p141 :: p71 :: [(b_0, row [.int .i64 v64.window, .int .i64 v64.span, .int .i64 v64.room, .int .i64 v64.epoch, .int .i64 v64.now, .int .i64 v64.next, .int .i64 v64.acked, .int .i64 (if x127.seq > v64.sent then x127.seq else v64.sent), .slice (some ⟨b129, 0, none⟩) ((List.set v64.out (Int.toNat v63) (⟨x127.seq, v64.now, x127.b⟩ : S_link_body)).length) c66, .int .i64 v64.got, .map (some b70), .bool v64.owes] 74)] :: Φ))) ?_
                      rintro _ _ ⟨a146, c147, p149, rfl, hs151, h148⟩
                      have hs151 := Sat.unlay F [] hs151
                      have hs151 := (hs151.arrange 0 6 [1] [0, 2, 3, 4, 5] (by decide))
                      refine ⟨(Mem.add F w56), (p149 :: p60 :: p141 :: p71 :: [(b_0, row [.int .i64 v64.window, .int .i64 v64.span, .int .i64 v64.room, .int .i64 v64.epoch, .int .i64 v64.now, .int .i64 v64.next, .int .i64 v64.acked, .int .i64 (if x127.seq > v64.sent then x127.seq else v64.sent), .slice (some ⟨b129, 0, none⟩) ((List.set v64.out (Int.toNat v63) (⟨x127.seq, v64.now, x127.b⟩ : S_link_body)).length) c66, .int .i64 v64.got, .map (some b70), .bool v64.owes] 74)] :: Φ), hs151, (hs151.arrange 1 5 [0] [5] (by decide)), ?_⟩
                      refine WO.build (vs := [.tmp 85, .tmp 89, .tmp 93, .tmp 98]) [0, 1, 2, 3] (.agg (List.toArray [.int .i64 v64.epoch, .int .i64 x127.seq, .int .i64 v64.got, .slice a146 x144.length c147])) rfl rfl rfl rfl rfl (fun _ => by kernel_rfl) ?_
                      refine WO.buildSl (e := 46) (vs := [.tmp 99]) [0] [.int .i64 v64.epoch, .int .i64 x127.seq, .int .i64 v64.got, .slice a146 x144.length c147] rfl rfl rfl rfl rfl (fun _ => by kernel_rfl) (fun _ _ h => (h.arrange 1 6 [0] [6] (by decide))) (fun b152 => ?_)
                      refine WO.freeze 1 rfl ?_
                      have hz154 := (OwnL.re (G := F) (const_int _) h148).rd (mono_int _)
                      obtain ⟨x155, hx156, hr⟩ := bind_some' hr
                      refine WO.append 1 (ho61.mono mono_api_Seg (Mem.le_pick (Mem.add (Mem.add F w56) p149) 2 [1] (by decide))) rfl (SrcL.ofRow 0 Try.underlying29 [[.int .i64 v64.epoch, .int .i64 x127.seq, .int .i64 v64.got, .slice a146 x144.length c147]] rfl rfl rfl (Rs.cons (x := (⟨v64.epoch, x127.seq, v64.got, x144⟩ : S_api_Seg)) (cs := [.int .i64 v64.epoch, .int .i64 x127.seq, .int .i64 v64.got, .slice a146 x144.length c147]) rfl ⟨_, _, rfl, (hz154.mono (mono_int _) (Mem.le_pick (Mem.add (Mem.add F w56) p149) 2 [0] (by decide)))⟩ rfl Rs.nil)) hx156 rfl rfl rfl rfl rfl rfl Try.underlying29 el_46 (fun _ _ h => (h.arrange 2 5 [1] [6] (by decide))) (fun a157 c158 p159 ho160 => ?_)
                      refine WO.assign rfl rfl rfl rfl ?_
                      refine WO.done ?_
                      refine WA.of ?_
                      refine WA.done (by kernel_rfl) ?_
                      refine At.block_normal ?_
                      refine At.seq_at ?_
                      exact fun a w hc hs => ⟨x155, (⟨v64.window, v64.span, v64.room, v64.epoch, v64.now, v64.next, v64.acked, (if x127.seq > v64.sent then x127.seq else v64.sent), (List.set v64.out (Int.toNat v63) (⟨x127.seq, v64.now, x127.b⟩ : S_link_body)), v64.got, v64.early, v64.owes⟩ : S_link_Link), a157, c158, p159, (some ⟨b129, 0, none⟩), c66, p141, b70, p71, (List.flatten [p149]), hr, (hc.keep (hc.keep (hc.keep (hc.keep hc.nil (t := 18) rfl) (t := 17) rfl) (t := 3) rfl) (t := 0) rfl), ((hs.arrange 2 5 [0, 1] [3, 4, 5, 6] (by decide)).gather 1), (ho160.mono mono_api_Seg (Mem.le_gather (Mem.add (Mem.add F w56) p149) 1)), ho142, hm72⟩
                    · refine WO.loadQ 1 2 hq143 rfl rfl rfl rfl rfl rfl sc_38 rfl ?_
                      refine WO.done ?_
                      refine WA.of ?_
                      refine WA.two (fuel := 5) 8 17 (by kernel_rfl) ?_ ?_
                      · refine WO.loadQ 1 0 hq143 rfl rfl rfl rfl rfl rfl sc_3 rfl ?_
                        refine WO.done ?_
                        refine WA.of ?_
                        refine WA.lin (fuel := 0) [(17, false), (18, true), (19, false), (20, false), (21, true)] (by kernel_rfl) (by kernel_rfl) ?_
                        obtain ⟨x144, hx145, hr⟩ := bind_some' hr
                        refine WO.call rfl rfl rfl rfl rfl cl_28 (CallsRet.lay 1 4 0 [] [0, 1, 2, 3, 4] (by decide) (Mem.add F (List.flatten [])) (w56 :: p60 :: p141 :: p71 :: [(b_0, row [.int .i64 v64.window, .int .i64 v64.span, .int .i64 v64.room, .int .i64 v64.epoch, .int .i64 v64.now, .int .i64 v64.next, .int .i64 v64.acked, .int .i64 (if x127.seq > v64.sent then x127.seq else v64.sent), .slice (some ⟨b129, 0, none⟩) ((List.set v64.out (Int.toNat v63) (⟨x127.seq, v64.now, x127.b⟩ : S_link_body)).length) c66, .int .i64 v64.got, .map (some b70), .bool v64.owes] 74)] :: Φ) rfl rfl (bytes_Clone_ok (F := F) (χ := (List.flatten [])) (h136.mono (mono_int _) (Mem.le_gather F 0)) hx145 (w56 :: p60 :: p141 :: p71 :: [(b_0, row [.int .i64 v64.window, .int .i64 v64.span, .int .i64 v64.room, .int .i64 v64.epoch, .int .i64 v64.now, .int .i64 v64.next, .int .i64 v64.acked, .int .i64 (if x127.seq > v64.sent then x127.seq else v64.sent), .slice (some ⟨b129, 0, none⟩) ((List.set v64.out (Int.toNat v63) (⟨x127.seq, v64.now, x127.b⟩ : S_link_body)).length) c66, .int .i64 v64.got, .map (some b70), .bool v64.owes] 74)] :: Φ))) ?_
                        rintro _ _ ⟨a146, c147, p149, rfl, hs151, h148⟩
                        have hs151 := Sat.unlay F [] hs151
                        have hs151 := (hs151.arrange 0 6 [1] [0, 2, 3, 4, 5] (by decide))
                        refine ⟨(Mem.add F w56), (p149 :: p60 :: p141 :: p71 :: [(b_0, row [.int .i64 v64.window, .int .i64 v64.span, .int .i64 v64.room, .int .i64 v64.epoch, .int .i64 v64.now, .int .i64 v64.next, .int .i64 v64.acked, .int .i64 (if x127.seq > v64.sent then x127.seq else v64.sent), .slice (some ⟨b129, 0, none⟩) ((List.set v64.out (Int.toNat v63) (⟨x127.seq, v64.now, x127.b⟩ : S_link_body)).length) c66, .int .i64 v64.got, .map (some b70), .bool v64.owes] 74)] :: Φ), hs151, (hs151.arrange 1 5 [0] [5] (by decide)), ?_⟩
                        refine WO.build (vs := [.tmp 85, .tmp 89, .tmp 93, .tmp 98]) [0, 1, 2, 3] (.agg (List.toArray [.int .i64 v64.epoch, .int .i64 x127.seq, .int .i64 v64.got, .slice a146 x144.length c147])) rfl rfl rfl rfl rfl (fun _ => by kernel_rfl) ?_
                        refine WO.buildSl (e := 46) (vs := [.tmp 99]) [0] [.int .i64 v64.epoch, .int .i64 x127.seq, .int .i64 v64.got, .slice a146 x144.length c147] rfl rfl rfl rfl rfl (fun _ => by kernel_rfl) (fun _ _ h => (h.arrange 1 6 [0] [6] (by decide))) (fun b152 => ?_)
                        refine WO.freeze 1 rfl ?_
                        have hz154 := (OwnL.re (G := F) (const_int _) h148).rd (mono_int _)
                        obtain ⟨x155, hx156, hr⟩ := bind_some' hr
                        refine WO.append 1 (ho61.mono mono_api_Seg (Mem.le_pick (Mem.add (Mem.add F w56) p149) 2 [1] (by decide))) rfl (SrcL.ofRow 0 Try.underlying29 [[.int .i64 v64.epoch, .int .i64 x127.seq, .int .i64 v64.got, .slice a146 x144.length c147]] rfl rfl rfl (Rs.cons (x := (⟨v64.epoch, x127.seq, v64.got, x144⟩ : S_api_Seg)) (cs := [.int .i64 v64.epoch, .int .i64 x127.seq, .int .i64 v64.got, .slice a146 x144.length c147]) rfl ⟨_, _, rfl, (hz154.mono (mono_int _) (Mem.le_pick (Mem.add (Mem.add F w56) p149) 2 [0] (by decide)))⟩ rfl Rs.nil)) hx156 rfl rfl rfl rfl rfl rfl Try.underlying29 el_46 (fun _ _ h => (h.arrange 2 5 [1] [6] (by decide))) (fun a157 c158 p159 ho160 => ?_)
                        refine WO.assign rfl rfl rfl rfl ?_
                        refine WO.done ?_
                        refine WA.of ?_
                        refine WA.done (by kernel_rfl) ?_
                        refine At.block_normal ?_
                        refine At.seq_at ?_
                        exact fun a w hc hs => ⟨x155, (⟨v64.window, v64.span, v64.room, v64.epoch, v64.now, v64.next, v64.acked, (if x127.seq > v64.sent then x127.seq else v64.sent), (List.set v64.out (Int.toNat v63) (⟨x127.seq, v64.now, x127.b⟩ : S_link_body)), v64.got, v64.early, v64.owes⟩ : S_link_Link), a157, c158, p159, (some ⟨b129, 0, none⟩), c66, p141, b70, p71, (List.flatten [p149]), hr, (hc.keep (hc.keep (hc.keep (hc.keep hc.nil (t := 18) rfl) (t := 17) rfl) (t := 3) rfl) (t := 0) rfl), ((hs.arrange 2 5 [0, 1] [3, 4, 5, 6] (by decide)).gather 1), (ho160.mono mono_api_Seg (Mem.le_gather (Mem.add (Mem.add F w56) p149) 1)), ho142, hm72⟩
                      · obtain ⟨x144, hx145, hr⟩ := bind_some' hr
                        refine WO.call rfl rfl rfl rfl rfl cl_28 (CallsRet.lay 1 4 0 [] [0, 1, 2, 3, 4] (by decide) (Mem.add F (List.flatten [])) (w56 :: p60 :: p141 :: p71 :: [(b_0, row [.int .i64 v64.window, .int .i64 v64.span, .int .i64 v64.room, .int .i64 v64.epoch, .int .i64 v64.now, .int .i64 v64.next, .int .i64 v64.acked, .int .i64 (if x127.seq > v64.sent then x127.seq else v64.sent), .slice (some ⟨b129, 0, none⟩) ((List.set v64.out (Int.toNat v63) (⟨x127.seq, v64.now, x127.b⟩ : S_link_body)).length) c66, .int .i64 v64.got, .map (some b70), .bool v64.owes] 74)] :: Φ) rfl rfl (bytes_Clone_ok (F := F) (χ := (List.flatten [])) (h136.mono (mono_int _) (Mem.le_gather F 0)) hx145 (w56 :: p60 :: p141 :: p71 :: [(b_0, row [.int .i64 v64.window, .int .i64 v64.span, .int .i64 v64.room, .int .i64 v64.epoch, .int .i64 v64.now, .int .i64 v64.next, .int .i64 v64.acked, .int .i64 (if x127.seq > v64.sent then x127.seq else v64.sent), .slice (some ⟨b129, 0, none⟩) ((List.set v64.out (Int.toNat v63) (⟨x127.seq, v64.now, x127.b⟩ : S_link_body)).length) c66, .int .i64 v64.got, .map (some b70), .bool v64.owes] 74)] :: Φ))) ?_
                        rintro _ _ ⟨a146, c147, p149, rfl, hs151, h148⟩
                        have hs151 := Sat.unlay F [] hs151
                        have hs151 := (hs151.arrange 0 6 [1] [0, 2, 3, 4, 5] (by decide))
                        refine ⟨(Mem.add F w56), (p149 :: p60 :: p141 :: p71 :: [(b_0, row [.int .i64 v64.window, .int .i64 v64.span, .int .i64 v64.room, .int .i64 v64.epoch, .int .i64 v64.now, .int .i64 v64.next, .int .i64 v64.acked, .int .i64 (if x127.seq > v64.sent then x127.seq else v64.sent), .slice (some ⟨b129, 0, none⟩) ((List.set v64.out (Int.toNat v63) (⟨x127.seq, v64.now, x127.b⟩ : S_link_body)).length) c66, .int .i64 v64.got, .map (some b70), .bool v64.owes] 74)] :: Φ), hs151, (hs151.arrange 1 5 [0] [5] (by decide)), ?_⟩
                        refine WO.done ?_
                        refine WA.of ?_
                        refine WA.lin (fuel := 0) [(8, false), (18, true), (19, false), (20, false), (21, true)] (by kernel_rfl) (by kernel_rfl) ?_
                        refine WO.loadQ 2 0 hq143 rfl rfl rfl rfl rfl rfl sc_3 rfl ?_
                        refine WO.build (vs := [.tmp 85, .tmp 89, .tmp 93, .tmp 98]) [0, 1, 2, 3] (.agg (List.toArray [.int .i64 v64.epoch, .int .i64 x127.seq, .int .i64 v64.got, .slice a146 x144.length c147])) rfl rfl rfl rfl rfl (fun _ => by kernel_rfl) ?_
                        refine WO.buildSl (e := 46) (vs := [.tmp 99]) [0] [.int .i64 v64.epoch, .int .i64 x127.seq, .int .i64 v64.got, .slice a146 x144.length c147] rfl rfl rfl rfl rfl (fun _ => by kernel_rfl) (fun _ _ h => (h.arrange 1 6 [0] [6] (by decide))) (fun b152 => ?_)
                        refine WO.freeze 1 rfl ?_
                        have hz154 := (OwnL.re (G := F) (const_int _) h148).rd (mono_int _)
                        obtain ⟨x155, hx156, hr⟩ := bind_some' hr
                        refine WO.append 1 (ho61.mono mono_api_Seg (Mem.le_pick (Mem.add (Mem.add F w56) p149) 2 [1] (by decide))) rfl (SrcL.ofRow 0 Try.underlying29 [[.int .i64 v64.epoch, .int .i64 x127.seq, .int .i64 v64.got, .slice a146 x144.length c147]] rfl rfl rfl (Rs.cons (x := (⟨v64.epoch, x127.seq, v64.got, x144⟩ : S_api_Seg)) (cs := [.int .i64 v64.epoch, .int .i64 x127.seq, .int .i64 v64.got, .slice a146 x144.length c147]) rfl ⟨_, _, rfl, (hz154.mono (mono_int _) (Mem.le_pick (Mem.add (Mem.add F w56) p149) 2 [0] (by decide)))⟩ rfl Rs.nil)) hx156 rfl rfl rfl rfl rfl rfl Try.underlying29 el_46 (fun _ _ h => (h.arrange 2 5 [1] [6] (by decide))) (fun a157 c158 p159 ho160 => ?_)
                        refine WO.assign rfl rfl rfl rfl ?_
                        refine WO.done ?_
                        refine WA.of ?_
                        refine WA.done (by kernel_rfl) ?_
                        refine At.block_normal ?_
                        refine At.seq_at ?_
                        exact fun a w hc hs => ⟨x155, (⟨v64.window, v64.span, v64.room, v64.epoch, v64.now, v64.next, v64.acked, (if x127.seq > v64.sent then x127.seq else v64.sent), (List.set v64.out (Int.toNat v63) (⟨x127.seq, v64.now, x127.b⟩ : S_link_body)), v64.got, v64.early, v64.owes⟩ : S_link_Link), a157, c158, p159, (some ⟨b129, 0, none⟩), c66, p141, b70, p71, (List.flatten [p149]), hr, (hc.keep (hc.keep (hc.keep (hc.keep hc.nil (t := 18) rfl) (t := 17) rfl) (t := 3) rfl) (t := 0) rfl), ((hs.arrange 2 5 [0, 1] [3, 4, 5, 6] (by decide)).gather 1), (ho160.mono mono_api_Seg (Mem.le_gather (Mem.add (Mem.add F w56) p149) 1)), ho142, hm72⟩
                  · refine WO.loadQ 1 0 hq143 rfl rfl rfl rfl rfl rfl sc_3 rfl ?_
                    refine WO.done ?_
                    refine WA.of ?_
                    refine WA.lin (fuel := 0) [(4, false), (9, true), (10, true), (11, true), (12, false)] (by kernel_rfl) (by kernel_rfl) ?_
                    refine WO.load 3 rfl rfl rfl rfl sc_3 rfl rfl ?_
                    refine WO.max2 rfl rfl rfl rfl rfl ?_
                    refine WO.nilCheck rfl rfl rfl rfl ?_
                    refine WO.fieldAddr 7 rfl rfl rfl rfl fl_74_7 ?_
                    refine WO.store 3 rfl rfl rfl rfl sz_3 rfl rfl rfl (fun _ h => (h.arrange 1 4 [0] [1, 3] (by decide))) ?_
                    refine WO.done ?_
                    refine WA.of ?_
                    refine WA.done (by kernel_rfl) ?_
                    refine At.seq_wc ?_
                    refine WC.drawA (Sat (Mem.add F w56) ([(b_0, row [.int .i64 v64.window, .int .i64 v64.span, .int .i64 v64.room, .int .i64 v64.epoch, .int .i64 v64.now, .int .i64 v64.next, .int .i64 v64.acked, .int .i64 (if x127.seq > v64.sent then x127.seq else v64.sent), .slice (some ⟨b129, 0, none⟩) ((List.set v64.out (Int.toNat v63) (⟨x127.seq, v64.now, x127.b⟩ : S_link_body)).length) c66, .int .i64 v64.got, .map (some b70), .bool v64.owes] 74)] :: Φ)) (fun _ h => (h.arrange 1 4 [0] [4] (by decide))) mixed rfl ?_
                    refine WA.lin (fuel := 7) [(0, true), (1, true), (2, true), (3, true), (4, true), (5, true), (6, true), (7, true), (9, true), (10, true), (11, true), (12, true), (13, true), (14, true), (15, true)] (by kernel_rfl) (by kernel_rfl) ?_
                    refine WO.move rfl rfl rfl rfl ?_
                    refine WO.move rfl rfl rfl rfl ?_
                    refine WO.nilCheck rfl rfl rfl rfl ?_
                    refine WO.fieldAddr 3 rfl rfl rfl rfl fl_74_3 ?_
                    refine WO.loadY 0 rfl rfl rfl rfl sc_3 rfl rfl ?_
                    refine WO.move rfl rfl rfl rfl ?_
                    refine WO.nilCheck rfl rfl rfl rfl ?_
                    refine WO.fieldAddr 0 rfl rfl rfl rfl fl_79_0 ?_
                    refine WO.move rfl rfl rfl rfl ?_
                    refine WO.nilCheck rfl rfl rfl rfl ?_
                    refine WO.fieldAddr 9 rfl rfl rfl rfl fl_74_9 ?_
                    refine WO.loadY 0 rfl rfl rfl rfl sc_3 rfl rfl ?_
                    refine WO.move rfl rfl rfl rfl ?_
                    refine WO.nilCheck rfl rfl rfl rfl ?_
                    refine WO.fieldAddr 2 rfl rfl rfl rfl fl_79_2 ?_
                    refine WO.done ?_
                    refine WA.of ?_
                    refine WA.two (fuel := 6) 8 16 (by kernel_rfl) ?_ ?_
                    · refine WO.loadQ 1 0 hq143 rfl rfl rfl rfl rfl rfl sc_3 rfl ?_
                      refine WO.done ?_
                      refine WA.of ?_
                      refine WA.lin (fuel := 0) [(16, false), (17, false), (18, true), (19, false), (20, false), (21, true)] (by kernel_rfl) (by kernel_rfl) ?_
                      refine WO.loadQ 1 2 hq143 rfl rfl rfl rfl rfl rfl sc_38 rfl ?_
                      obtain ⟨x144, hx145, hr⟩ := bind_some' hr
                      refine WO.call rfl rfl rfl rfl rfl cl_28 (CallsRet.lay 1 4 0 [] [0, 1, 2, 3, 4] (by decide) (Mem.add F (List.flatten [])) (w56 :: p60 :: p141 :: p71 :: [(b_0, row [.int .i64 v64.window, .int .i64 v64.span, .int .i64 v64.room, .int .i64 v64.epoch, .int .i64 v64.now, .int .i64 v64.next, .int .i64 v64.acked, .int .i64 (if x127.seq > v64.sent then x127.seq else v64.sent), .slice (some ⟨b129, 0, none⟩) ((List.set v64.out (Int.toNat v63) (⟨x127.seq, v64.now, x127.b⟩ : S_link_body)).length) c66, .int .i64 v64.got, .map (some b70), .bool v64.owes] 74)] :: Φ) rfl rfl (bytes_Clone_ok (F := F) (χ := (List.flatten [])) (h136.mono (mono_int _) (Mem.le_gather F 0)) hx145 (w56 :: p60 :: p141 :: p71 :: [(b_0, row [.int .i64 v64.window, .int .i64 v64.span, .int .i64 v64.room, .int .i64 v64.epoch, .int .i64 v64.now, .int .i64 v64.next, .int .i64 v64.acked, .int .i64 (if x127.seq > v64.sent then x127.seq else v64.sent), .slice (some ⟨b129, 0, none⟩) ((List.set v64.out (Int.toNat v63) (⟨x127.seq, v64.now, x127.b⟩ : S_link_body)).length) c66, .int .i64 v64.got, .map (some b70), .bool v64.owes] 74)] :: Φ))) ?_
                      rintro _ _ ⟨a146, c147, p149, rfl, hs151, h148⟩
                      have hs151 := Sat.unlay F [] hs151
                      have hs151 := (hs151.arrange 0 6 [1] [0, 2, 3, 4, 5] (by decide))
                      refine ⟨(Mem.add F w56), (p149 :: p60 :: p141 :: p71 :: [(b_0, row [.int .i64 v64.window, .int .i64 v64.span, .int .i64 v64.room, .int .i64 v64.epoch, .int .i64 v64.now, .int .i64 v64.next, .int .i64 v64.acked, .int .i64 (if x127.seq > v64.sent then x127.seq else v64.sent), .slice (some ⟨b129, 0, none⟩) ((List.set v64.out (Int.toNat v63) (⟨x127.seq, v64.now, x127.b⟩ : S_link_body)).length) c66, .int .i64 v64.got, .map (some b70), .bool v64.owes] 74)] :: Φ), hs151, (hs151.arrange 1 5 [0] [5] (by decide)), ?_⟩
                      refine WO.build (vs := [.tmp 85, .tmp 89, .tmp 93, .tmp 98]) [0, 1, 2, 3] (.agg (List.toArray [.int .i64 v64.epoch, .int .i64 x127.seq, .int .i64 v64.got, .slice a146 x144.length c147])) rfl rfl rfl rfl rfl (fun _ => by kernel_rfl) ?_
                      refine WO.buildSl (e := 46) (vs := [.tmp 99]) [0] [.int .i64 v64.epoch, .int .i64 x127.seq, .int .i64 v64.got, .slice a146 x144.length c147] rfl rfl rfl rfl rfl (fun _ => by kernel_rfl) (fun _ _ h => (h.arrange 1 6 [0] [6] (by decide))) (fun b152 => ?_)
                      refine WO.freeze 1 rfl ?_
                      have hz154 := (OwnL.re (G := F) (const_int _) h148).rd (mono_int _)
                      obtain ⟨x155, hx156, hr⟩ := bind_some' hr
                      refine WO.append 1 (ho61.mono mono_api_Seg (Mem.le_pick (Mem.add (Mem.add F w56) p149) 2 [1] (by decide))) rfl (SrcL.ofRow 0 Try.underlying29 [[.int .i64 v64.epoch, .int .i64 x127.seq, .int .i64 v64.got, .slice a146 x144.length c147]] rfl rfl rfl (Rs.cons (x := (⟨v64.epoch, x127.seq, v64.got, x144⟩ : S_api_Seg)) (cs := [.int .i64 v64.epoch, .int .i64 x127.seq, .int .i64 v64.got, .slice a146 x144.length c147]) rfl ⟨_, _, rfl, (hz154.mono (mono_int _) (Mem.le_pick (Mem.add (Mem.add F w56) p149) 2 [0] (by decide)))⟩ rfl Rs.nil)) hx156 rfl rfl rfl rfl rfl rfl Try.underlying29 el_46 (fun _ _ h => (h.arrange 2 5 [1] [6] (by decide))) (fun a157 c158 p159 ho160 => ?_)
                      refine WO.assign rfl rfl rfl rfl ?_
                      refine WO.done ?_
                      refine WA.of ?_
                      refine WA.done (by kernel_rfl) ?_
                      refine At.block_normal ?_
                      refine At.seq_at ?_
                      exact fun a w hc hs => ⟨x155, (⟨v64.window, v64.span, v64.room, v64.epoch, v64.now, v64.next, v64.acked, (if x127.seq > v64.sent then x127.seq else v64.sent), (List.set v64.out (Int.toNat v63) (⟨x127.seq, v64.now, x127.b⟩ : S_link_body)), v64.got, v64.early, v64.owes⟩ : S_link_Link), a157, c158, p159, (some ⟨b129, 0, none⟩), c66, p141, b70, p71, (List.flatten [p149]), hr, (hc.keep (hc.keep (hc.keep (hc.keep hc.nil (t := 18) rfl) (t := 17) rfl) (t := 3) rfl) (t := 0) rfl), ((hs.arrange 2 5 [0, 1] [3, 4, 5, 6] (by decide)).gather 1), (ho160.mono mono_api_Seg (Mem.le_gather (Mem.add (Mem.add F w56) p149) 1)), ho142, hm72⟩
                    · refine WO.loadQ 1 2 hq143 rfl rfl rfl rfl rfl rfl sc_38 rfl ?_
                      refine WO.done ?_
                      refine WA.of ?_
                      refine WA.two (fuel := 5) 8 17 (by kernel_rfl) ?_ ?_
                      · refine WO.loadQ 1 0 hq143 rfl rfl rfl rfl rfl rfl sc_3 rfl ?_
                        refine WO.done ?_
                        refine WA.of ?_
                        refine WA.lin (fuel := 0) [(17, false), (18, true), (19, false), (20, false), (21, true)] (by kernel_rfl) (by kernel_rfl) ?_
                        obtain ⟨x144, hx145, hr⟩ := bind_some' hr
                        refine WO.call rfl rfl rfl rfl rfl cl_28 (CallsRet.lay 1 4 0 [] [0, 1, 2, 3, 4] (by decide) (Mem.add F (List.flatten [])) (w56 :: p60 :: p141 :: p71 :: [(b_0, row [.int .i64 v64.window, .int .i64 v64.span, .int .i64 v64.room, .int .i64 v64.epoch, .int .i64 v64.now, .int .i64 v64.next, .int .i64 v64.acked, .int .i64 (if x127.seq > v64.sent then x127.seq else v64.sent), .slice (some ⟨b129, 0, none⟩) ((List.set v64.out (Int.toNat v63) (⟨x127.seq, v64.now, x127.b⟩ : S_link_body)).length) c66, .int .i64 v64.got, .map (some b70), .bool v64.owes] 74)] :: Φ) rfl rfl (bytes_Clone_ok (F := F) (χ := (List.flatten [])) (h136.mono (mono_int _) (Mem.le_gather F 0)) hx145 (w56 :: p60 :: p141 :: p71 :: [(b_0, row [.int .i64 v64.window, .int .i64 v64.span, .int .i64 v64.room, .int .i64 v64.epoch, .int .i64 v64.now, .int .i64 v64.next, .int .i64 v64.acked, .int .i64 (if x127.seq > v64.sent then x127.seq else v64.sent), .slice (some ⟨b129, 0, none⟩) ((List.set v64.out (Int.toNat v63) (⟨x127.seq, v64.now, x127.b⟩ : S_link_body)).length) c66, .int .i64 v64.got, .map (some b70), .bool v64.owes] 74)] :: Φ))) ?_
                        rintro _ _ ⟨a146, c147, p149, rfl, hs151, h148⟩
                        have hs151 := Sat.unlay F [] hs151
                        have hs151 := (hs151.arrange 0 6 [1] [0, 2, 3, 4, 5] (by decide))
                        refine ⟨(Mem.add F w56), (p149 :: p60 :: p141 :: p71 :: [(b_0, row [.int .i64 v64.window, .int .i64 v64.span, .int .i64 v64.room, .int .i64 v64.epoch, .int .i64 v64.now, .int .i64 v64.next, .int .i64 v64.acked, .int .i64 (if x127.seq > v64.sent then x127.seq else v64.sent), .slice (some ⟨b129, 0, none⟩) ((List.set v64.out (Int.toNat v63) (⟨x127.seq, v64.now, x127.b⟩ : S_link_body)).length) c66, .int .i64 v64.got, .map (some b70), .bool v64.owes] 74)] :: Φ), hs151, (hs151.arrange 1 5 [0] [5] (by decide)), ?_⟩
                        refine WO.build (vs := [.tmp 85, .tmp 89, .tmp 93, .tmp 98]) [0, 1, 2, 3] (.agg (List.toArray [.int .i64 v64.epoch, .int .i64 x127.seq, .int .i64 v64.got, .slice a146 x144.length c147])) rfl rfl rfl rfl rfl (fun _ => by kernel_rfl) ?_
                        refine WO.buildSl (e := 46) (vs := [.tmp 99]) [0] [.int .i64 v64.epoch, .int .i64 x127.seq, .int .i64 v64.got, .slice a146 x144.length c147] rfl rfl rfl rfl rfl (fun _ => by kernel_rfl) (fun _ _ h => (h.arrange 1 6 [0] [6] (by decide))) (fun b152 => ?_)
                        refine WO.freeze 1 rfl ?_
                        have hz154 := (OwnL.re (G := F) (const_int _) h148).rd (mono_int _)
                        obtain ⟨x155, hx156, hr⟩ := bind_some' hr
                        refine WO.append 1 (ho61.mono mono_api_Seg (Mem.le_pick (Mem.add (Mem.add F w56) p149) 2 [1] (by decide))) rfl (SrcL.ofRow 0 Try.underlying29 [[.int .i64 v64.epoch, .int .i64 x127.seq, .int .i64 v64.got, .slice a146 x144.length c147]] rfl rfl rfl (Rs.cons (x := (⟨v64.epoch, x127.seq, v64.got, x144⟩ : S_api_Seg)) (cs := [.int .i64 v64.epoch, .int .i64 x127.seq, .int .i64 v64.got, .slice a146 x144.length c147]) rfl ⟨_, _, rfl, (hz154.mono (mono_int _) (Mem.le_pick (Mem.add (Mem.add F w56) p149) 2 [0] (by decide)))⟩ rfl Rs.nil)) hx156 rfl rfl rfl rfl rfl rfl Try.underlying29 el_46 (fun _ _ h => (h.arrange 2 5 [1] [6] (by decide))) (fun a157 c158 p159 ho160 => ?_)
                        refine WO.assign rfl rfl rfl rfl ?_
                        refine WO.done ?_
                        refine WA.of ?_
                        refine WA.done (by kernel_rfl) ?_
                        refine At.block_normal ?_
                        refine At.seq_at ?_
                        exact fun a w hc hs => ⟨x155, (⟨v64.window, v64.span, v64.room, v64.epoch, v64.now, v64.next, v64.acked, (if x127.seq > v64.sent then x127.seq else v64.sent), (List.set v64.out (Int.toNat v63) (⟨x127.seq, v64.now, x127.b⟩ : S_link_body)), v64.got, v64.early, v64.owes⟩ : S_link_Link), a157, c158, p159, (some ⟨b129, 0, none⟩), c66, p141, b70, p71, (List.flatten [p149]), hr, (hc.keep (hc.keep (hc.keep (hc.keep hc.nil (t := 18) rfl) (t := 17) rfl) (t := 3) rfl) (t := 0) rfl), ((hs.arrange 2 5 [0, 1] [3, 4, 5, 6] (by decide)).gather 1), (ho160.mono mono_api_Seg (Mem.le_gather (Mem.add (Mem.add F w56) p149) 1)), ho142, hm72⟩
                      · obtain ⟨x144, hx145, hr⟩ := bind_some' hr
                        refine WO.call rfl rfl rfl rfl rfl cl_28 (CallsRet.lay 1 4 0 [] [0, 1, 2, 3, 4] (by decide) (Mem.add F (List.flatten [])) (w56 :: p60 :: p141 :: p71 :: [(b_0, row [.int .i64 v64.window, .int .i64 v64.span, .int .i64 v64.room, .int .i64 v64.epoch, .int .i64 v64.now, .int .i64 v64.next, .int .i64 v64.acked, .int .i64 (if x127.seq > v64.sent then x127.seq else v64.sent), .slice (some ⟨b129, 0, none⟩) ((List.set v64.out (Int.toNat v63) (⟨x127.seq, v64.now, x127.b⟩ : S_link_body)).length) c66, .int .i64 v64.got, .map (some b70), .bool v64.owes] 74)] :: Φ) rfl rfl (bytes_Clone_ok (F := F) (χ := (List.flatten [])) (h136.mono (mono_int _) (Mem.le_gather F 0)) hx145 (w56 :: p60 :: p141 :: p71 :: [(b_0, row [.int .i64 v64.window, .int .i64 v64.span, .int .i64 v64.room, .int .i64 v64.epoch, .int .i64 v64.now, .int .i64 v64.next, .int .i64 v64.acked, .int .i64 (if x127.seq > v64.sent then x127.seq else v64.sent), .slice (some ⟨b129, 0, none⟩) ((List.set v64.out (Int.toNat v63) (⟨x127.seq, v64.now, x127.b⟩ : S_link_body)).length) c66, .int .i64 v64.got, .map (some b70), .bool v64.owes] 74)] :: Φ))) ?_
                        rintro _ _ ⟨a146, c147, p149, rfl, hs151, h148⟩
                        have hs151 := Sat.unlay F [] hs151
                        have hs151 := (hs151.arrange 0 6 [1] [0, 2, 3, 4, 5] (by decide))
                        refine ⟨(Mem.add F w56), (p149 :: p60 :: p141 :: p71 :: [(b_0, row [.int .i64 v64.window, .int .i64 v64.span, .int .i64 v64.room, .int .i64 v64.epoch, .int .i64 v64.now, .int .i64 v64.next, .int .i64 v64.acked, .int .i64 (if x127.seq > v64.sent then x127.seq else v64.sent), .slice (some ⟨b129, 0, none⟩) ((List.set v64.out (Int.toNat v63) (⟨x127.seq, v64.now, x127.b⟩ : S_link_body)).length) c66, .int .i64 v64.got, .map (some b70), .bool v64.owes] 74)] :: Φ), hs151, (hs151.arrange 1 5 [0] [5] (by decide)), ?_⟩
                        refine WO.done ?_
                        refine WA.of ?_
                        refine WA.lin (fuel := 0) [(8, false), (18, true), (19, false), (20, false), (21, true)] (by kernel_rfl) (by kernel_rfl) ?_
                        refine WO.loadQ 2 0 hq143 rfl rfl rfl rfl rfl rfl sc_3 rfl ?_
                        refine WO.build (vs := [.tmp 85, .tmp 89, .tmp 93, .tmp 98]) [0, 1, 2, 3] (.agg (List.toArray [.int .i64 v64.epoch, .int .i64 x127.seq, .int .i64 v64.got, .slice a146 x144.length c147])) rfl rfl rfl rfl rfl (fun _ => by kernel_rfl) ?_
                        refine WO.buildSl (e := 46) (vs := [.tmp 99]) [0] [.int .i64 v64.epoch, .int .i64 x127.seq, .int .i64 v64.got, .slice a146 x144.length c147] rfl rfl rfl rfl rfl (fun _ => by kernel_rfl) (fun _ _ h => (h.arrange 1 6 [0] [6] (by decide))) (fun b152 => ?_)
                        refine WO.freeze 1 rfl ?_
                        have hz154 := (OwnL.re (G := F) (const_int _) h148).rd (mono_int _)
                        obtain ⟨x155, hx156, hr⟩ := bind_some' hr
                        refine WO.append 1 (ho61.mono mono_api_Seg (Mem.le_pick (Mem.add (Mem.add F w56) p149) 2 [1] (by decide))) rfl (SrcL.ofRow 0 Try.underlying29 [[.int .i64 v64.epoch, .int .i64 x127.seq, .int .i64 v64.got, .slice a146 x144.length c147]] rfl rfl rfl (Rs.cons (x := (⟨v64.epoch, x127.seq, v64.got, x144⟩ : S_api_Seg)) (cs := [.int .i64 v64.epoch, .int .i64 x127.seq, .int .i64 v64.got, .slice a146 x144.length c147]) rfl ⟨_, _, rfl, (hz154.mono (mono_int _) (Mem.le_pick (Mem.add (Mem.add F w56) p149) 2 [0] (by decide)))⟩ rfl Rs.nil)) hx156 rfl rfl rfl rfl rfl rfl Try.underlying29 el_46 (fun _ _ h => (h.arrange 2 5 [1] [6] (by decide))) (fun a157 c158 p159 ho160 => ?_)
                        refine WO.assign rfl rfl rfl rfl ?_
                        refine WO.done ?_
                        refine WA.of ?_
                        refine WA.done (by kernel_rfl) ?_
                        refine At.block_normal ?_
                        refine At.seq_at ?_
                        exact fun a w hc hs => ⟨x155, (⟨v64.window, v64.span, v64.room, v64.epoch, v64.now, v64.next, v64.acked, (if x127.seq > v64.sent then x127.seq else v64.sent), (List.set v64.out (Int.toNat v63) (⟨x127.seq, v64.now, x127.b⟩ : S_link_body)), v64.got, v64.early, v64.owes⟩ : S_link_Link), a157, c158, p159, (some ⟨b129, 0, none⟩), c66, p141, b70, p71, (List.flatten [p149]), hr, (hc.keep (hc.keep (hc.keep (hc.keep hc.nil (t := 18) rfl) (t := 17) rfl) (t := 3) rfl) (t := 0) rfl), ((hs.arrange 2 5 [0, 1] [3, 4, 5, 6] (by decide)).gather 1), (ho160.mono mono_api_Seg (Mem.le_gather (Mem.add (Mem.add F w56) p149) 1)), ho142, hm72⟩
                · have hr := cond_f hb140 hr
                  refine WC.skip ?_
                  refine At.block_normal ?_
                  refine At.seq_at ?_
                  exact fun a w hc hs => ⟨v57, v64, a58, c59, p60, (some ⟨b129, 0, none⟩), c66, p67, b70, p71, (List.flatten []), hr, (hc.keep (hc.keep (hc.keep (hc.keep hc.nil (t := 18) rfl) (t := 17) rfl) (t := 3) rfl) (t := 0) rfl), (hs.gather 0), (ho61.mono mono_api_Seg (Mem.le_gather (Mem.add F w56) 0)), ho68, hm72⟩
          · rintro a w ⟨v111, v117, a112, c113, p114, a118, c119, p120, b123, p124, w110, hr, hc, hs, ho115, ho121, hm125⟩
            refine WC.use hc hs ?_
            clear hc hs
            unfold link_Link_Tick_vvvvvvvvovmv_k6 at hr
            refine WC.region [(0, true), (1, true)] rfl ?_
            refine WO.bin rfl rfl rfl rfl rfl rfl ?_
            refine WO.move rfl rfl rfl rfl ?_
            refine WO.done ?_
            refine At.round_next hr ?_
            exact fun a w hc hs => ⟨a112, c113, p114, a118, c119, p120, b123, p124, (List.flatten [w110, w56]), (hc.keep (hc.keep (hc.keep (hc.keep hc.nil (t := 18) rfl) (t := 17) rfl) (t := 3) rfl) (t := 0) rfl), (hs.gather 2), (ho115.mono mono_api_Seg (Mem.le_gather (Mem.add (Mem.add F w56) w110) 2)), ho121, hm125⟩
        · have hr := cond_f hb109 hr
          refine WC.exit ?_
          refine At.seq_exit ?_
          refine At.round_exit hr (fun hy => ?_)
          refine At.exit_block ?_
          refine At.seq_at ?_
          exact fun a w hc hs => ⟨v57, v64, a58, c59, p60, a65, c66, p67, b70, p71, (List.flatten [w56]), hy, (hc.keep (hc.keep hc.nil (t := 3) rfl) (t := 0) rfl), (hs.gather 1), (ho61.mono mono_api_Seg (Mem.le_gather (Mem.add F w56) 1)), ho68, hm72⟩
    · rintro a w ⟨v93, v99, a94, c95, p96, a100, c101, p102, b105, p106, w92, rfl, hc, hs, ho97, ho103, hm107⟩
      refine At.use hc hs ?_
      clear hc hs
      (try dsimp only at hk5)
      have hr := hk5
      refine At.seq_at ?_
      exact fun a w hc hs => ⟨v93, v99, a94, c95, p96, a100, c101, p102, b105, p106, (List.flatten [w92]), hr, (hc.keep (hc.keep hc.nil (t := 3) rfl) (t := 0) rfl), (hs.gather 1), (ho97.mono mono_api_Seg (Mem.le_gather (Mem.add F w92) 1)), ho103, hm107⟩
  · rintro a w ⟨v2, v8, a3, c4, p5, a9, c10, p11, b14, p15, w1, hr, hc, hs, ho6, ho12, hm16⟩
    refine WC.use hc hs ?_
    clear hc hs
    unfold link_Link_Tick_vvvvvvvvovmv_k1 at hr
    refine WC.seq (fun a w => ∃ (v19 : List S_api_Seg) (a20 : Option Addr) (c21 : Nat) (p22 : List Chunk), link_Link_Tick_vvvvvvvvovmv_k2 v8 v19 = some r ∧ Ctx 128 [(0, .pointer (some ⟨b_0, 0, none⟩)), (3, .slice a20 v19.length c21)] a ∧ Sat (Mem.add F w1) (p22 :: p11 :: p15 :: [(b_0, row [.int .i64 v8.window, .int .i64 v8.span, .int .i64 v8.room, .int .i64 v8.epoch, .int .i64 v8.now, .int .i64 v8.next, .int .i64 v8.acked, .int .i64 v8.sent, .slice a9 v8.out.length c10, .int .i64 v8.got, .map (some b14), .bool v8.owes] 74)] :: Φ) w ∧ OwnL 4 R_api_Seg (Mem.add F w1) 46 a20 c21 v19 p22) ?_ ?_
    · refine WC.seq (fun a w => ∃ (v26 : Bool), link_Link_Tick_vvvvvvvvovmv_k3 v2 v8 v26 = some r ∧ Ctx 128 [(0, .pointer (some ⟨b_0, 0, none⟩)), (3, .slice a3 v2.length c4), (111, .bool v26)] a ∧ Sat (Mem.add F w1) (p5 :: p11 :: p15 :: [(b_0, row [.int .i64 v8.window, .int .i64 v8.span, .int .i64 v8.room, .int .i64 v8.epoch, .int .i64 v8.now, .int .i64 v8.next, .int .i64 v8.acked, .int .i64 v8.sent, .slice a9 v8.out.length c10, .int .i64 v8.got, .map (some b14), .bool v8.owes] 74)] :: Φ) w) ?_ ?_
      · refine WC.region [(0, true), (1, true), (2, true), (3, true), (4, true), (5, true), (6, true), (7, false), (8, true)] rfl ?_
        refine WO.move rfl rfl rfl rfl ?_
        refine WO.len rfl rfl rfl rfl Try.underlying29 ?_
        refine WO.bin rfl rfl rfl rfl rfl rfl ?_
        refine WO.move rfl rfl rfl rfl ?_
        refine WO.split (t := 106) rfl (fun hg36 => ?_) (fun hg36 => ?_)
        · have hr := cond_t hg36 hr
          refine WO.move rfl rfl rfl rfl ?_
          refine WO.nilCheck rfl rfl rfl rfl ?_
          refine WO.fieldAddr 11 rfl rfl rfl rfl fl_74_11 ?_
          refine WO.load 3 rfl rfl rfl rfl sc_4 rfl rfl ?_
          refine WO.pickT rfl rfl rfl rfl rfl ?_
          refine WO.done ?_
          refine At.seq_at ?_
          exact fun a w hc hs => ⟨v8.owes, hr, (hc.keep (hc.keep (hc.keep hc.nil (t := 111) rfl) (t := 3) rfl) (t := 0) rfl), hs⟩
        · have hr := cond_f hg36 hr
          refine WO.skip rfl rfl rfl rfl ?_
          refine WO.skip rfl rfl rfl rfl ?_
          refine WO.skip rfl rfl rfl rfl ?_
          refine WO.skipF rfl rfl rfl rfl ?_
          refine WO.pickF rfl rfl rfl rfl rfl ?_
          refine WO.done ?_
          refine At.seq_at ?_
          exact fun a w hc hs => ⟨false, hr, (hc.keep (hc.keep (hc.keep hc.nil (t := 111) rfl) (t := 3) rfl) (t := 0) rfl), hs⟩
      · rintro a w ⟨v26, hr, hc, hs⟩
        refine WC.use hc hs ?_
        clear hc hs
        unfold link_Link_Tick_vvvvvvvvovmv_k3 at hr
        refine WC.cond rfl (fun hb27 => ?_) (fun hb27 => ?_)
        · have hr := cond_t hb27 hr
          refine WC.draw (Sat (Mem.add F w1) (p15 :: [(b_0, row [.int .i64 v8.window, .int .i64 v8.span, .int .i64 v8.room, .int .i64 v8.epoch, .int .i64 v8.now, .int .i64 v8.next, .int .i64 v8.acked, .int .i64 v8.sent, .slice a9 v8.out.length c10, .int .i64 v8.got, .map (some b14), .bool v8.owes] 74)] :: Φ)) (fun _ h => (h.arrange 1 4 [0] [3, 4] (by decide))) [(0, true), (1, true), (2, true), (3, true), (4, true), (5, true), (6, true), (7, true), (8, true), (9, true), (10, false), (11, false), (12, true)] mixed (by kernel_rfl) rfl (by kernel_rfl) ?_
          refine WO.move rfl rfl rfl rfl ?_
          refine WO.move rfl rfl rfl rfl ?_
          refine WO.nilCheck rfl rfl rfl rfl ?_
          refine WO.fieldAddr 3 rfl rfl rfl rfl fl_74_3 ?_
          refine WO.loadY 1 rfl rfl rfl rfl sc_3 rfl rfl ?_
          refine WO.move rfl rfl rfl rfl ?_
          refine WO.nilCheck rfl rfl rfl rfl ?_
          refine WO.fieldAddr 9 rfl rfl rfl rfl fl_74_9 ?_
          refine WO.loadY 1 rfl rfl rfl rfl sc_3 rfl rfl ?_
          refine WO.build (vs := [.tmp 116, .tmp 120]) [0, 2] (.agg (List.toArray [.int .i64 v8.epoch, .int .i64 0, .int .i64 v8.got, .slice none 0 0])) rfl rfl rfl rfl rfl (fun _ => by kernel_rfl) ?_
          refine WO.buildSl (e := 46) (vs := [.tmp 121]) [0] [.int .i64 v8.epoch, .int .i64 0, .int .i64 v8.got, .slice none 0 0] rfl rfl rfl rfl rfl (fun _ => by kernel_rfl) (fun _ _ h => (h.arrange 1 5 [0] [4, 5] (by decide))) (fun b28 => ?_)
          obtain ⟨x30, hx31, hr⟩ := bind_some' hr
          refine WO.append 1 ho6 rfl (SrcL.ofRow 0 Try.underlying29 [[.int .i64 v8.epoch, .int .i64 0, .int .i64 v8.got, .slice none 0 0]] rfl rfl rfl (Rs.cons (x := (⟨v8.epoch, 0, v8.got, []⟩ : S_api_Seg)) (cs := [.int .i64 v8.epoch, .int .i64 0, .int .i64 v8.got, .slice none 0 0]) rfl ⟨_, _, rfl, RdL.nil⟩ rfl Rs.nil)) hx31 rfl rfl rfl rfl rfl rfl Try.underlying29 el_46 (fun _ _ h => (h.arrange 1 5 [0] [4, 5] (by decide))) (fun a32 c33 p34 ho35 => ?_)
          refine WO.assign rfl rfl rfl rfl ?_
          refine WO.done ?_
          refine At.seq_at ?_
          exact fun a w hc hs => ⟨x30, a32, c33, p34, hr, (hc.keep (hc.keep hc.nil (t := 3) rfl) (t := 0) rfl), (hs.arrange 1 5 [0] [2, 3, 4, 5] (by decide)), ho35⟩
        · have hr := cond_f hb27 hr
          refine WC.skip ?_
          refine At.seq_at ?_
          exact fun a w hc hs => ⟨v2, a3, c4, p5, hr, (hc.keep (hc.keep hc.nil (t := 3) rfl) (t := 0) rfl), hs, ho6⟩
    · rintro a w ⟨v19, a20, c21, p22, hr, hc, hs, ho23⟩
      refine WC.use hc hs ?_
      clear hc hs
      unfold link_Link_Tick_vvvvvvvvovmv_k2 at hr
      refine WC.then ?_
      refine WC.region [(0, true), (1, true), (2, true), (3, false)] rfl ?_
      refine WO.move rfl rfl rfl rfl ?_
      refine WO.nilCheck rfl rfl rfl rfl ?_
      refine WO.fieldAddr 11 rfl rfl rfl rfl fl_74_11 ?_
      refine WO.store 3 rfl rfl rfl rfl sz_4 rfl rfl rfl (fun _ _ => trivial) ?_
      refine WO.done ?_
      refine At.seq_wc ?_
      refine WC.then ?_
      refine WC.region [(0, true), (1, true)] rfl ?_
      refine WO.move rfl rfl rfl rfl ?_
      refine WO.assign rfl rfl rfl rfl ?_
      refine WO.done ?_
      refine At.seq_wc ?_
      refine WC.ret ?_
      obtain rfl := Option.some.inj hr
      exact At.ret (fun a w hc hs => (resVs_cons (hc.res rfl) resVs_nil)) (fun w hs => ⟨(List.flatten [w1]), _, _, _, _, _, _, _, _, rfl, ((hs.arrange 1 4 [0] [1, 4, 2, 3] (by decide)).gather 1), (ho23.mono mono_api_Seg (Mem.le_gather (Mem.add F w1) 1)), (ho12.mono mono_link_body (Mem.le.trans (Mem.le_pick (Mem.add F w1) 1 [] (by decide)) (Mem.le_gather (Mem.add F w1) 1))), (hm16.mono (monoV1 (mono_sl (mono_int _))) (Mem.le.trans (Mem.le_pick (Mem.add F w1) 1 [] (by decide)) (Mem.le_gather (Mem.add F w1) 1)))⟩)
/-! (*peloton/link.Link).Hear$1 -/
def link_Link_Hear_1_b_vvvvvvvvxvxv (p0 : S_link_body) (p1_0_0 : Int) (p1_0_1 : Int) (p1_0_2 : Int) (p1_0_3 : Int) (p1_0_4 : Int) (p1_0_5 : Int) (p1_0_6 : Int) (p1_0_7 : Int) (p1_0_9 : Int) (p1_0_11 : Bool) : Option Bool := some (decide (p0.seq ≤ p1_0_6))
theorem link_Link_Hear_1_b_vvvvvvvvxvxv_ok {F : Mem} {χ : List Chunk} {p0 : S_link_body} {p1_0_0 : Int} {p1_0_1 : Int} {p1_0_2 : Int} {p1_0_3 : Int} {p1_0_4 : Int} {p1_0_5 : Int} {p1_0_6 : Int} {p1_0_7 : Int} {p1_0_9 : Int} {p1_0_11 : Bool} {cs_0 : List Value} (h_0 : R_link_body (Mem.add F χ) cs_0 p0) {b_1_0 : Nat} {u_1_0_8 : Value} {u_1_0_10 : Value} {b_1 o_1 : Nat} (hc_1 : Cells (Mem.add F χ) b_1 o_1 [.pointer (some ⟨b_1_0, 0, none⟩)]) {r : Bool} (hr : link_Link_Hear_1_b_vvvvvvvvxvxv p0 p1_0_0 p1_0_1 p1_0_2 p1_0_3 p1_0_4 p1_0_5 p1_0_6 p1_0_7 p1_0_9 p1_0_11 = some r) (Φ : List (List Chunk)) :
    CallsRet Try.prog 31 (List.toArray [.agg cs_0.toArray, .pointer (some ⟨b_1, o_1, none⟩)]) (Mem.add F χ) ([(b_1_0, row [.int .i64 p1_0_0, .int .i64 p1_0_1, .int .i64 p1_0_2, .int .i64 p1_0_3, .int .i64 p1_0_4, .int .i64 p1_0_5, .int .i64 p1_0_6, .int .i64 p1_0_7, u_1_0_8, .int .i64 p1_0_9, u_1_0_10, .bool p1_0_11] 74)] :: Φ) (fun v w => v = .bool r ∧ Sat (Mem.add F χ) ([(b_1_0, row [.int .i64 p1_0_0, .int .i64 p1_0_1, .int .i64 p1_0_2, .int .i64 p1_0_3, .int .i64 p1_0_4, .int .i64 p1_0_5, .int .i64 p1_0_6, .int .i64 p1_0_7, u_1_0_8, .int .i64 p1_0_9, u_1_0_10, .bool p1_0_11] 74)] :: Φ) w) := by
  obtain ⟨a1, c2, rfl, h3⟩ := h_0
  refine CallsRet.enter (rs := [.tmp 3]) Try.func31 rfl rfl rfl rfl ?_
  unfold link_Link_Hear_1_b_vvvvvvvvxvxv at hr
  refine WC.then ?_
  refine WC.region [(0, false), (1, true)] rfl ?_
  refine WO.box rfl rfl rfl rfl rfl (fun _ _ _ => trivial) (fun b4 => ?_)
  refine WO.assign rfl rfl rfl rfl ?_
  refine WO.done ?_
  refine At.seq_wc ?_
  refine WC.then ?_
  refine WC.draw (Sat (Mem.add F χ) ([(b4, row [.int .i64 p0.seq, .int .i64 p0.at_, .slice a1 p0.b.length c2] 79)] :: [(b_1_0, row [.int .i64 p1_0_0, .int .i64 p1_0_1, .int .i64 p1_0_2, .int .i64 p1_0_3, .int .i64 p1_0_4, .int .i64 p1_0_5, .int .i64 p1_0_6, .int .i64 p1_0_7, u_1_0_8, .int .i64 p1_0_9, u_1_0_10, .bool p1_0_11] 74)] :: Φ)) (fun _ h => (h.arrange 1 2 [0] [1, 2] (by decide))) [(0, true), (1, true), (2, true), (3, true), (4, true), (5, true), (6, true), (7, true)] mixed (by kernel_rfl) rfl (by kernel_rfl) ?_
  refine WO.fieldAddr 0 rfl rfl rfl rfl fl_79_0 ?_
  refine WO.loadY 0 rfl rfl rfl rfl sc_3 rfl rfl ?_
  refine WO.loadP 0 hc_1 rfl rfl rfl rfl rfl sc_27 rfl ?_
  refine WO.nilCheck rfl rfl rfl rfl ?_
  refine WO.fieldAddr 6 rfl rfl rfl rfl fl_74_6 ?_
  refine WO.loadY 1 rfl rfl rfl rfl sc_3 rfl rfl ?_
  refine WO.bin rfl rfl rfl rfl rfl rfl ?_
  refine WO.assign rfl rfl rfl rfl ?_
  refine WO.done ?_
  refine At.seq_wc ?_
  refine WC.ret ?_
  obtain rfl := Option.some.inj hr
  exact At.ret (fun a w hc hs => (resVs_cons (hc.res rfl) resVs_nil)) (fun w hs => ⟨rfl, (hs.arrange 1 2 [0] [2] (by decide))⟩)
/-! slices.IndexFunc[[]peloton/link.body,peloton/link.body] -/
def slices_IndexFunc_link_body_link_body_Flink_Link_Hear_1_b_vvvvvvvvxvxv_k1  : Option Int := some (-1)
def slices_IndexFunc_link_body_link_body_Flink_Link_Hear_1_b_vvvvvvvvxvxv_b2 (p0 : List S_link_body) (p1_0_0_0 : Int) (p1_0_0_1 : Int) (p1_0_0_2 : Int) (p1_0_0_3 : Int) (p1_0_0_4 : Int) (p1_0_0_5 : Int) (p1_0_0_6 : Int) (p1_0_0_7 : Int) (p1_0_0_9 : Int) (p1_0_0_11 : Bool) (v6 : Int) : Option (Int ⊕ (Lp Int Unit)) := cond (decide (v6 < (p0.length : Int))) ((getI p0 v6).bind fun x11 => (link_Link_Hear_1_b_vvvvvvvvxvxv x11 p1_0_0_0 p1_0_0_1 p1_0_0_2 p1_0_0_3 p1_0_0_4 p1_0_0_5 p1_0_0_6 p1_0_0_7 p1_0_0_9 p1_0_0_11).bind fun x19 => cond x19 (some (.inr (.ret v6))) (some (.inl (IntKind.wrap .i64 (v6 + 1))))) (some (.inr (.brk ())))
def slices_IndexFunc_link_body_link_body_Flink_Link_Hear_1_b_vvvvvvvvxvxv (p0 : List S_link_body) (p1_0_0_0 : Int) (p1_0_0_1 : Int) (p1_0_0_2 : Int) (p1_0_0_3 : Int) (p1_0_0_4 : Int) (p1_0_0_5 : Int) (p1_0_0_6 : Int) (p1_0_0_7 : Int) (p1_0_0_9 : Int) (p1_0_0_11 : Bool) : Option Int := (loopO (fun s => slices_IndexFunc_link_body_link_body_Flink_Link_Hear_1_b_vvvvvvvvxvxv_b2 p0 p1_0_0_0 p1_0_0_1 p1_0_0_2 p1_0_0_3 p1_0_0_4 p1_0_0_5 p1_0_0_6 p1_0_0_7 p1_0_0_9 p1_0_0_11 s) 0).bind (fun | .ret r => some r | .brk _ => slices_IndexFunc_link_body_link_body_Flink_Link_Hear_1_b_vvvvvvvvxvxv_k1 )
theorem slices_IndexFunc_link_body_link_body_Flink_Link_Hear_1_b_vvvvvvvvxvxv_ok {F : Mem} {χ : List Chunk} {p0 : List S_link_body} {p1_0_0_0 : Int} {p1_0_0_1 : Int} {p1_0_0_2 : Int} {p1_0_0_3 : Int} {p1_0_0_4 : Int} {p1_0_0_5 : Int} {p1_0_0_6 : Int} {p1_0_0_7 : Int} {p1_0_0_9 : Int} {p1_0_0_11 : Bool} {a_0 : Option Addr} {c_0 : Nat} (h_0 : RdL 3 R_link_body (Mem.add F χ) a_0 c_0 p0) {b_1_0_0 : Nat} {u_1_0_0_8 : Value} {u_1_0_0_10 : Value} {b_1_0 o_1_0 : Nat} (hc_1_0 : Cells (Mem.add F χ) b_1_0 o_1_0 [.pointer (some ⟨b_1_0_0, 0, none⟩)]) {r : Int} (hr : slices_IndexFunc_link_body_link_body_Flink_Link_Hear_1_b_vvvvvvvvxvxv p0 p1_0_0_0 p1_0_0_1 p1_0_0_2 p1_0_0_3 p1_0_0_4 p1_0_0_5 p1_0_0_6 p1_0_0_7 p1_0_0_9 p1_0_0_11 = some r) (Φ : List (List Chunk)) :
    CallsRet Try.prog 34 (List.toArray [.slice a_0 p0.length c_0, .func (.func 31) #[] #[.pointer (some ⟨b_1_0, o_1_0, none⟩)]]) (Mem.add F χ) ([(b_1_0_0, row [.int .i64 p1_0_0_0, .int .i64 p1_0_0_1, .int .i64 p1_0_0_2, .int .i64 p1_0_0_3, .int .i64 p1_0_0_4, .int .i64 p1_0_0_5, .int .i64 p1_0_0_6, .int .i64 p1_0_0_7, u_1_0_0_8, .int .i64 p1_0_0_9, u_1_0_0_10, .bool p1_0_0_11] 74)] :: Φ) (fun v w => v = .int .i64 r ∧ Sat (Mem.add F χ) ([(b_1_0_0, row [.int .i64 p1_0_0_0, .int .i64 p1_0_0_1, .int .i64 p1_0_0_2, .int .i64 p1_0_0_3, .int .i64 p1_0_0_4, .int .i64 p1_0_0_5, .int .i64 p1_0_0_6, .int .i64 p1_0_0_7, u_1_0_0_8, .int .i64 p1_0_0_9, u_1_0_0_10, .bool p1_0_0_11] 74)] :: Φ) w) := by
  refine CallsRet.enter (rs := [.tmp 4]) Try.func34 rfl rfl rfl rfl ?_
  unfold slices_IndexFunc_link_body_link_body_Flink_Link_Hear_1_b_vvvvvvvvxvxv at hr
  refine WC.then ?_
  refine WC.region [(0, true)] rfl ?_
  refine WO.assign rfl rfl rfl rfl ?_
  refine WO.done ?_
  refine At.seq_wc ?_
  refine WC.seq (fun a w => slices_IndexFunc_link_body_link_body_Flink_Link_Hear_1_b_vvvvvvvvxvxv_k1  = some r ∧ Ctx 19 [] a ∧ Sat (Mem.add F χ) ([(b_1_0_0, row [.int .i64 p1_0_0_0, .int .i64 p1_0_0_1, .int .i64 p1_0_0_2, .int .i64 p1_0_0_3, .int .i64 p1_0_0_4, .int .i64 p1_0_0_5, .int .i64 p1_0_0_6, .int .i64 p1_0_0_7, u_1_0_0_8, .int .i64 p1_0_0_9, u_1_0_0_10, .bool p1_0_0_11] 74)] :: Φ) w) ?_ ?_
  · refine WC.then ?_
    refine WC.region [(0, true), (1, true), (2, true)] rfl ?_
    refine WO.move rfl rfl rfl rfl ?_
    refine WO.len rfl rfl rfl rfl Try.underlying72 ?_
    refine WO.move rfl rfl rfl rfl ?_
    refine WO.done ?_
    refine At.seq_wc ?_
    obtain ⟨xl3, hl3, hk3⟩ := bind_some' hr
    refine WC.weaken (fun a w => .brk () = xl3 ∧ Ctx 19 [] a ∧ Sat (Mem.add F χ) ([(b_1_0_0, row [.int .i64 p1_0_0_0, .int .i64 p1_0_0_1, .int .i64 p1_0_0_2, .int .i64 p1_0_0_3, .int .i64 p1_0_0_4, .int .i64 p1_0_0_5, .int .i64 p1_0_0_6, .int .i64 p1_0_0_7, u_1_0_0_8, .int .i64 p1_0_0_9, u_1_0_0_10, .bool p1_0_0_11] 74)] :: Φ) w) ?_ ?_
    · refine WC.block ?_
      refine WC.loop (fun (v6 : Int) a w => Ctx 19 [(0, .slice a_0 p0.length c_0), (1, .func (.func 31) #[] #[.pointer (some ⟨b_1_0, o_1_0, none⟩)]), (7, .int .i64 (p0.length : Int)), (8, .int .i64 v6)] a ∧ Sat (Mem.add F χ) ([(b_1_0_0, row [.int .i64 p1_0_0_0, .int .i64 p1_0_0_1, .int .i64 p1_0_0_2, .int .i64 p1_0_0_3, .int .i64 p1_0_0_4, .int .i64 p1_0_0_5, .int .i64 p1_0_0_6, .int .i64 p1_0_0_7, u_1_0_0_8, .int .i64 p1_0_0_9, u_1_0_0_10, .bool p1_0_0_11] 74)] :: Φ) w) hl3 ?_ ?_
      · exact fun a w hc hs => ⟨(hc.keep (hc.keep (hc.keep (hc.keep hc.nil (t := 8) rfl) (t := 7) rfl) (t := 1) rfl) (t := 0) rfl), hs⟩
      · rintro v6 r3 hr a w ⟨hc, hs⟩
        refine WC.use hc hs ?_
        clear hc hs
        (try dsimp only at hr)
        unfold slices_IndexFunc_link_body_link_body_Flink_Link_Hear_1_b_vvvvvvvvxvxv_b2 at hr
        refine WC.then ?_
        refine WC.region [(0, true)] rfl ?_
        refine WO.bin rfl rfl rfl rfl rfl rfl ?_
        refine WO.done ?_
        refine At.seq_wc ?_
        refine WC.then ?_
        refine WC.cond rfl (fun hb10 => ?_) (fun hb10 => ?_)
        · have hr := cond_t hb10 hr
          refine WC.skip ?_
          refine At.seq_wc ?_
          refine WC.then ?_
          refine WC.block ?_
          refine WC.then ?_
          refine WC.region [(0, true), (1, true)] rfl ?_
          refine WO.move rfl rfl rfl rfl ?_
          refine WO.assign rfl rfl rfl rfl ?_
          refine WO.done ?_
          refine At.seq_wc ?_
          refine WC.then ?_
          refine WC.region [(0, true), (1, true), (2, true), (3, true), (4, false), (5, false)] rfl ?_
          refine WO.move rfl rfl rfl rfl ?_
          refine WO.move rfl rfl rfl rfl ?_
          refine WO.move rfl rfl rfl rfl ?_
          obtain ⟨x11, hx12, hr⟩ := bind_some' hr
          refine WO.indexR h_0 hx12 rfl rfl rfl rfl rfl rfl Try.underlying72 sz_79 ?_
          rintro b13 o14 _ hc15 ⟨a16, c17, rfl, h18⟩
          refine WO.loadPAn 0 3 hc15 rfl rfl rfl rfl rfl ag_79 rfl rfl ?_
          obtain ⟨x19, hx20, hr⟩ := bind_some' hr
          refine WO.call rfl rfl rfl rfl rfl cl_31 (CallsRet.lay 1 1 1 [0] [1] (by decide) (Mem.add F (List.flatten [χ])) ([(b_1_0_0, row [.int .i64 p1_0_0_0, .int .i64 p1_0_0_1, .int .i64 p1_0_0_2, .int .i64 p1_0_0_3, .int .i64 p1_0_0_4, .int .i64 p1_0_0_5, .int .i64 p1_0_0_6, .int .i64 p1_0_0_7, u_1_0_0_8, .int .i64 p1_0_0_9, u_1_0_0_10, .bool p1_0_0_11] 74)] :: Φ) rfl rfl (link_Link_Hear_1_b_vvvvvvvvxvxv_ok (F := F) (χ := (List.flatten [χ])) ⟨_, _, rfl, (h18.mono (mono_int _) (Mem.le_gather (Mem.add F χ) 1))⟩ (hc_1_0.mono (Mem.le_gather (Mem.add F χ) 1)) hx20 (Φ))) ?_
          rintro _ _ ⟨rfl, hs21⟩
          have hs21 := Sat.unlay F [χ] hs21
          have hs21 := (hs21.arrange 1 1 [0] [1] (by decide))
          refine ⟨(Mem.add F χ), ([(b_1_0_0, row [.int .i64 p1_0_0_0, .int .i64 p1_0_0_1, .int .i64 p1_0_0_2, .int .i64 p1_0_0_3, .int .i64 p1_0_0_4, .int .i64 p1_0_0_5, .int .i64 p1_0_0_6, .int .i64 p1_0_0_7, u_1_0_0_8, .int .i64 p1_0_0_9, u_1_0_0_10, .bool p1_0_0_11] 74)] :: Φ), hs21, trivial, ?_⟩
          refine WO.done ?_
          refine At.seq_wc ?_
          refine WC.cond rfl (fun hb22 => ?_) (fun hb22 => ?_)
          · have hr := cond_t hb22 hr
            refine WC.then ?_
            refine WC.region [(0, true), (1, true)] rfl ?_
            refine WO.move rfl rfl rfl rfl ?_
            refine WO.assign rfl rfl rfl rfl ?_
            refine WO.done ?_
            refine At.seq_wc ?_
            refine WC.ret ?_
            refine At.block_ret ?_
            refine At.seq_ret ?_
            refine At.round_ret hr (fun hy => ?_)
            subst hy
            have hr := hk3
            refine At.block_ret ?_
            refine At.seq_ret ?_
            refine At.seq_ret ?_
            obtain rfl := Option.some.inj hr
            exact At.ret (fun a w hc hs => (resVs_cons (hc.res rfl) resVs_nil)) (fun w hs => ⟨rfl, hs⟩)
          · have hr := cond_f hb22 hr
            refine WC.skip ?_
            refine At.block_normal ?_
            refine At.seq_wc ?_
            refine WC.region [(0, true), (1, true)] rfl ?_
            refine WO.bin rfl rfl rfl rfl rfl rfl ?_
            refine WO.move rfl rfl rfl rfl ?_
            refine WO.done ?_
            refine At.round_next hr ?_
            exact fun a w hc hs => ⟨(hc.keep (hc.keep (hc.keep (hc.keep hc.nil (t := 8) rfl) (t := 7) rfl) (t := 1) rfl) (t := 0) rfl), hs⟩
        · have hr := cond_f hb10 hr
          refine WC.exit ?_
          refine At.seq_exit ?_
          refine At.round_exit hr (fun hy => ?_)
          refine At.exit_block ?_
          refine At.seq_at ?_
          exact fun a w hc hs => ⟨hy, hc.nil, hs⟩
    · rintro a w ⟨rfl, hc, hs⟩
      refine At.use hc hs ?_
      clear hc hs
      (try dsimp only at hk3)
      have hr := hk3
      refine At.seq_at ?_
      exact fun a w hc hs => ⟨hr, hc.nil, hs⟩
  · rintro a w ⟨hr, hc, hs⟩
    refine WC.use hc hs ?_
    clear hc hs
    unfold slices_IndexFunc_link_body_link_body_Flink_Link_Hear_1_b_vvvvvvvvxvxv_k1 at hr
    refine WC.then ?_
    refine WC.region [(0, true)] rfl ?_
    refine WO.assign rfl rfl rfl rfl ?_
    refine WO.done ?_
    refine At.seq_wc ?_
    refine WC.ret ?_
    obtain rfl := Option.some.inj hr
    exact At.ret (fun a w hc hs => (resVs_cons (hc.res rfl) resVs_nil)) (fun w hs => ⟨rfl, hs⟩)
/-! slices.DeleteFunc[[]peloton/link.body,peloton/link.body] -/
def slices_DeleteFunc_link_body_link_body_w_Flink_Link_Hear_1_b_vvvvvvvvxvxv_k1 (v6 : List S_link_body) (v12 : Int) : Option (List S_link_body) := guardO (0 ≤ v12 ∧ v12 ≤ (v6.length : Int)) ((subL (List.take (Int.toNat v12) v6 ++ List.replicate (v6.length - (Int.toNat v12)) (⟨0, 0, ([] : List Int)⟩ : S_link_body)) 0 v12).bind fun x19 => some x19)
def slices_DeleteFunc_link_body_link_body_w_Flink_Link_Hear_1_b_vvvvvvvvxvxv_k4 (v41 : Int) (v61 : List S_link_body) (v67 : Int) : Option (((List S_link_body) × Int × Int) ⊕ ((List S_link_body) × Int)) := some (.inl (v61, v67, (IntKind.wrap .i64 (v41 + 1))))
def slices_DeleteFunc_link_body_link_body_w_Flink_Link_Hear_1_b_vvvvvvvvxvxv_b2 (p1_0_0_0 : Int) (p1_0_0_1 : Int) (p1_0_0_2 : Int) (p1_0_0_3 : Int) (p1_0_0_4 : Int) (p1_0_0_5 : Int) (p1_0_0_6 : Int) (p1_0_0_7 : Int) (p1_0_0_9 : Int) (p1_0_0_11 : Bool) (v34 : List S_link_body) (v40 : Int) (v41 : Int) : Option (((List S_link_body) × Int × Int) ⊕ ((List S_link_body) × Int)) := cond (decide (v41 < (v34.length : Int))) ((getI v34 v41).bind fun x68 => (link_Link_Hear_1_b_vvvvvvvvxvxv x68 p1_0_0_0 p1_0_0_1 p1_0_0_2 p1_0_0_3 p1_0_0_4 p1_0_0_5 p1_0_0_6 p1_0_0_7 p1_0_0_9 p1_0_0_11).bind fun x80 => cond (!x80) ((getI v34 v40).bind fun x84 => slices_DeleteFunc_link_body_link_body_w_Flink_Link_Hear_1_b_vvvvvvvvxvxv_k4 v41 (List.set v34 (Int.toNat v40) x68) (IntKind.wrap .i64 (v40 + 1))) (slices_DeleteFunc_link_body_link_body_w_Flink_Link_Hear_1_b_vvvvvvvvxvxv_k4 v41 v34 v40)) (some (.inr (v34, v40)))
def slices_DeleteFunc_link_body_link_body_w_Flink_Link_Hear_1_b_vvvvvvvvxvxv (p0 : List S_link_body) (p1_0_0_0 : Int) (p1_0_0_1 : Int) (p1_0_0_2 : Int) (p1_0_0_3 : Int) (p1_0_0_4 : Int) (p1_0_0_5 : Int) (p1_0_0_6 : Int) (p1_0_0_7 : Int) (p1_0_0_9 : Int) (p1_0_0_11 : Bool) : Option (List S_link_body) := (slices_IndexFunc_link_body_link_body_Flink_Link_Hear_1_b_vvvvvvvvxvxv p0 p1_0_0_0 p1_0_0_1 p1_0_0_2 p1_0_0_3 p1_0_0_4 p1_0_0_5 p1_0_0_6 p1_0_0_7 p1_0_0_9 p1_0_0_11).bind fun x1 => cond (x1 == (-1)) (some p0) ((loopO (fun s => slices_DeleteFunc_link_body_link_body_w_Flink_Link_Hear_1_b_vvvvvvvvxvxv_b2 p1_0_0_0 p1_0_0_1 p1_0_0_2 p1_0_0_3 p1_0_0_4 p1_0_0_5 p1_0_0_6 p1_0_0_7 p1_0_0_9 p1_0_0_11 s.1 s.2.1 s.2.2) (p0, x1, (IntKind.wrap .i64 (x1 + 1)))).bind (fun (v52, v58) => slices_DeleteFunc_link_body_link_body_w_Flink_Link_Hear_1_b_vvvvvvvvxvxv_k1 v52 v58))
theorem slices_DeleteFunc_link_body_link_body_w_Flink_Link_Hear_1_b_vvvvvvvvxvxv_ok {F : Mem} {χ : List Chunk} {p0 : List S_link_body} {p1_0_0_0 : Int} {p1_0_0_1 : Int} {p1_0_0_2 : Int} {p1_0_0_3 : Int} {p1_0_0_4 : Int} {p1_0_0_5 : Int} {p1_0_0_6 : Int} {p1_0_0_7 : Int} {p1_0_0_9 : Int} {p1_0_0_11 : Bool} {a_0 : Option Addr} {c_0 : Nat} {ψ_0 : List Chunk} (ho_0 : OwnL 3 R_link_body F 79 a_0 c_0 p0 ψ_0) {b_1_0_0 : Nat} {u_1_0_0_8 : Value} {u_1_0_0_10 : Value} {b_1_0 o_1_0 : Nat} (hc_1_0 : Cells (Mem.add F χ) b_1_0 o_1_0 [.pointer (some ⟨b_1_0_0, 0, none⟩)]) {r : (List S_link_body)} (hr : slices_DeleteFunc_link_body_link_body_w_Flink_Link_Hear_1_b_vvvvvvvvxvxv p0 p1_0_0_0 p1_0_0_1 p1_0_0_2 p1_0_0_3 p1_0_0_4 p1_0_0_5 p1_0_0_6 p1_0_0_7 p1_0_0_9 p1_0_0_11 = some r) (Φ : List (List Chunk)) :
    CallsRet Try.prog 30 (List.toArray [.slice a_0 p0.length c_0, .func (.func 31) #[] #[.pointer (some ⟨b_1_0, o_1_0, none⟩)]]) (Mem.add F χ) ([(b_1_0_0, row [.int .i64 p1_0_0_0, .int .i64 p1_0_0_1, .int .i64 p1_0_0_2, .int .i64 p1_0_0_3, .int .i64 p1_0_0_4, .int .i64 p1_0_0_5, .int .i64 p1_0_0_6, .int .i64 p1_0_0_7, u_1_0_0_8, .int .i64 p1_0_0_9, u_1_0_0_10, .bool p1_0_0_11] 74)] :: ψ_0 :: Φ) (fun v w => ∃ a0 c0 ψ0, v = .slice a0 r.length c0 ∧ Sat (Mem.add F χ) (ψ0 :: [(b_1_0_0, row [.int .i64 p1_0_0_0, .int .i64 p1_0_0_1, .int .i64 p1_0_0_2, .int .i64 p1_0_0_3, .int .i64 p1_0_0_4, .int .i64 p1_0_0_5, .int .i64 p1_0_0_6, .int .i64 p1_0_0_7, u_1_0_0_8, .int .i64 p1_0_0_9, u_1_0_0_10, .bool p1_0_0_11] 74)] :: Φ) w ∧ OwnL 3 R_link_body F 79 a0 c0 r ψ0) := by
  refine CallsRet.enter (rs := [.tmp 4]) Try.func30 rfl rfl rfl rfl ?_
  unfold slices_DeleteFunc_link_body_link_body_w_Flink_Link_Hear_1_b_vvvvvvvvxvxv at hr
  refine WC.then ?_
  refine WC.region [(0, true)] rfl ?_
  refine WO.assign rfl rfl rfl rfl ?_
  refine WO.done ?_
  refine At.seq_wc ?_
  refine WC.then ?_
  refine WC.region [(0, true), (1, true), (2, false), (3, true)] rfl ?_
  refine WO.move rfl rfl rfl rfl ?_
  refine WO.move rfl rfl rfl rfl ?_
  obtain ⟨x1, hx2, hr⟩ := bind_some' hr
  refine WO.call rfl rfl rfl rfl rfl cl_34 (CallsRet.lay 1 2 2 [2, 0] [1] (by decide) (Mem.add F (List.flatten [ψ_0, χ])) ([(b_1_0_0, row [.int .i64 p1_0_0_0, .int .i64 p1_0_0_1, .int .i64 p1_0_0_2, .int .i64 p1_0_0_3, .int .i64 p1_0_0_4, .int .i64 p1_0_0_5, .int .i64 p1_0_0_6, .int .i64 p1_0_0_7, u_1_0_0_8, .int .i64 p1_0_0_9, u_1_0_0_10, .bool p1_0_0_11] 74)] :: Φ) rfl rfl (slices_IndexFunc_link_body_link_body_Flink_Link_Hear_1_b_vvvvvvvvxvxv_ok (F := F) (χ := (List.flatten [ψ_0, χ])) ((ho_0.rd mono_link_body).mono mono_link_body (Mem.le.trans (Mem.le_pick (Mem.add (Mem.add F χ) ψ_0) 2 [0] (by decide)) (Mem.le_gather (Mem.add (Mem.add F χ) ψ_0) 2))) (hc_1_0.mono (Mem.le.trans (Mem.le_pick (Mem.add (Mem.add F χ) ψ_0) 2 [1] (by decide)) (Mem.le_gather (Mem.add (Mem.add F χ) ψ_0) 2))) hx2 (Φ))) ?_
  rintro _ _ ⟨rfl, hs3⟩
  have hs3 := Sat.unlay F [ψ_0, χ] hs3
  have hs3 := (hs3.arrange 2 1 [1] [2, 0] (by decide))
  refine ⟨(Mem.add F χ), ([(b_1_0_0, row [.int .i64 p1_0_0_0, .int .i64 p1_0_0_1, .int .i64 p1_0_0_2, .int .i64 p1_0_0_3, .int .i64 p1_0_0_4, .int .i64 p1_0_0_5, .int .i64 p1_0_0_6, .int .i64 p1_0_0_7, u_1_0_0_8, .int .i64 p1_0_0_9, u_1_0_0_10, .bool p1_0_0_11] 74)] :: ψ_0 :: Φ), hs3, trivial, ?_⟩
  refine WO.assign rfl rfl rfl rfl ?_
  refine WO.done ?_
  refine At.seq_wc ?_
  refine WC.then ?_
  refine WC.then ?_
  refine WC.region [(0, true), (1, true)] rfl ?_
  refine WO.move rfl rfl rfl rfl ?_
  refine WO.bin rfl rfl rfl rfl rfl rfl ?_
  refine WO.done ?_
  refine At.seq_wc ?_
  refine WC.cond rfl (fun hb4 => ?_) (fun hb4 => ?_)
  · have hr := cond_t hb4 hr
    refine WC.then ?_
    refine WC.region [(0, true), (1, true)] rfl ?_
    refine WO.move rfl rfl rfl rfl ?_
    refine WO.assign rfl rfl rfl rfl ?_
    refine WO.done ?_
    refine At.seq_wc ?_
    refine WC.ret ?_
    refine At.seq_ret ?_
    obtain rfl := Option.some.inj hr
    exact At.ret (fun a w hc hs => (resVs_cons (hc.res rfl) resVs_nil)) (fun w hs => ⟨_, _, _, rfl, (hs.arrange 1 2 [0] [2, 1] (by decide)), ho_0⟩)
  · have hr := cond_f hb4 hr
    refine WC.skip ?_
    refine At.seq_wc ?_
    refine WC.seq (fun a w => ∃ (v6 : List S_link_body) (v12 : Int) (a7 : Option Addr) (c8 : Nat) (p9 : List Chunk), slices_DeleteFunc_link_body_link_body_w_Flink_Link_Hear_1_b_vvvvvvvvxvxv_k1 v6 v12 = some r ∧ Ctx 42 [(0, .slice a7 v6.length c8), (5, .int .i64 v12)] a ∧ Sat (Mem.add F χ) (p9 :: [(b_1_0_0, row [.int .i64 p1_0_0_0, .int .i64 p1_0_0_1, .int .i64 p1_0_0_2, .int .i64 p1_0_0_3, .int .i64 p1_0_0_4, .int .i64 p1_0_0_5, .int .i64 p1_0_0_6, .int .i64 p1_0_0_7, u_1_0_0_8, .int .i64 p1_0_0_9, u_1_0_0_10, .bool p1_0_0_11] 74)] :: Φ) w ∧ OwnL 3 R_link_body F 79 a7 c8 v6 p9) ?_ ?_
    · refine WC.then ?_
      refine WC.region [(0, true), (1, true), (2, true)] rfl ?_
      refine WO.move rfl rfl rfl rfl ?_
      refine WO.bin rfl rfl rfl rfl rfl rfl ?_
      refine WO.assign rfl rfl rfl rfl ?_
      refine WO.done ?_
      refine At.seq_wc ?_
      obtain ⟨xl3, hl3, hk3⟩ := bind_some' hr
      refine WC.weaken (fun a w => ∃ (v52 : List S_link_body) (v58 : Int) (a53 : Option Addr) (c54 : Nat) (p55 : List Chunk), (v52, v58) = xl3 ∧ Ctx 42 [(0, .slice a53 v52.length c54), (5, .int .i64 v58)] a ∧ Sat (Mem.add F χ) (p55 :: [(b_1_0_0, row [.int .i64 p1_0_0_0, .int .i64 p1_0_0_1, .int .i64 p1_0_0_2, .int .i64 p1_0_0_3, .int .i64 p1_0_0_4, .int .i64 p1_0_0_5, .int .i64 p1_0_0_6, .int .i64 p1_0_0_7, u_1_0_0_8, .int .i64 p1_0_0_9, u_1_0_0_10, .bool p1_0_0_11] 74)] :: Φ) w ∧ OwnL 3 R_link_body F 79 a53 c54 v52 p55) ?_ ?_
      · refine WC.block ?_
        refine WC.loop (fun ⟨v34, v40, v41⟩ a w => ∃ (a35 : Option Addr) (c36 : Nat) (p37 : List Chunk), Ctx 42 [(0, .slice a35 v34.length c36), (1, .func (.func 31) #[] #[.pointer (some ⟨b_1_0, o_1_0, none⟩)]), (5, .int .i64 v40), (6, .int .i64 v41)] a ∧ Sat (Mem.add F χ) (p37 :: [(b_1_0_0, row [.int .i64 p1_0_0_0, .int .i64 p1_0_0_1, .int .i64 p1_0_0_2, .int .i64 p1_0_0_3, .int .i64 p1_0_0_4, .int .i64 p1_0_0_5, .int .i64 p1_0_0_6, .int .i64 p1_0_0_7, u_1_0_0_8, .int .i64 p1_0_0_9, u_1_0_0_10, .bool p1_0_0_11] 74)] :: Φ) w ∧ OwnL 3 R_link_body F 79 a35 c36 v34 p37) hl3 ?_ ?_
        · exact fun a w hc hs => ⟨a_0, c_0, ψ_0, (hc.keep (hc.keep (hc.keep (hc.keep hc.nil (t := 6) rfl) (t := 5) rfl) (t := 1) rfl) (t := 0) rfl), (hs.arrange 1 2 [0] [2, 1] (by decide)), ho_0⟩
        · rintro ⟨v34, v40, v41⟩ r3 hr a w ⟨a35, c36, p37, hc, hs, ho38⟩
          refine WC.use hc hs ?_
          clear hc hs
          (try dsimp only at hr)
          unfold slices_DeleteFunc_link_body_link_body_w_Flink_Link_Hear_1_b_vvvvvvvvxvxv_b2 at hr
          refine WC.then ?_
          refine WC.then ?_
          refine WC.region [(0, true), (1, true), (2, true), (3, true)] rfl ?_
          refine WO.move rfl rfl rfl rfl ?_
          refine WO.move rfl rfl rfl rfl ?_
          refine WO.len rfl rfl rfl rfl Try.underlying72 ?_
          refine WO.bin rfl rfl rfl rfl rfl rfl ?_
          refine WO.done ?_
          refine At.seq_wc ?_
          refine WC.cond rfl (fun hb59 => ?_) (fun hb59 => ?_)
          · have hr := cond_t hb59 hr
            refine WC.skip ?_
            refine At.seq_wc ?_
            refine WC.seq (fun a w => ∃ (v61 : List S_link_body) (v67 : Int) (a62 : Option Addr) (c63 : Nat) (p64 : List Chunk), slices_DeleteFunc_link_body_link_body_w_Flink_Link_Hear_1_b_vvvvvvvvxvxv_k4 v41 v61 v67 = some r3 ∧ Ctx 42 [(0, .slice a62 v61.length c63), (1, .func (.func 31) #[] #[.pointer (some ⟨b_1_0, o_1_0, none⟩)]), (5, .int .i64 v67), (6, .int .i64 v41)] a ∧ Sat (Mem.add F χ) (p64 :: [(b_1_0_0, row [.int .i64 p1_0_0_0, .int .i64 p1_0_0_1, .int .i64 p1_0_0_2, .int .i64 p1_0_0_3, .int .i64 p1_0_0_4, .int .i64 p1_0_0_5, .int .i64 p1_0_0_6, .int .i64 p1_0_0_7, u_1_0_0_8, .int .i64 p1_0_0_9, u_1_0_0_10, .bool p1_0_0_11] 74)] :: Φ) w ∧ OwnL 3 R_link_body F 79 a62 c63 v61 p64) ?_ ?_
            · refine WC.block ?_
              refine WC.then ?_
              refine WC.region [(0, true), (1, true), (2, true), (3, false), (4, false), (5, false)] rfl ?_
              refine WO.move rfl rfl rfl rfl ?_
              refine WO.move rfl rfl rfl rfl ?_
              obtain ⟨x68, hx69, hr⟩ := bind_some' hr
              refine WO.indexQ ho38 hx69 rfl rfl rfl rfl rfl rfl Try.underlying72 sz_79 (fun b70 cs71 hb72 h73 hq74 => ?_)
              subst hb72
              obtain ⟨a75, c76, rfl, h77⟩ := h73
              refine WO.loadQA 0 0 3 hq74 rfl rfl rfl rfl rfl rfl ag_79 rfl rfl ?_
              refine WO.alloc (.agg #[.int .i64 0, .int .i64 0, .slice none 0 0]) rfl rfl rfl zb_79 rfl (fun _ _ _ => trivial) (fun b78 => ?_)
              refine WO.storeA 0 3 rfl rfl rfl rfl sz_79 rfl rfl rfl rfl (fun _ _ => trivial) ?_
              refine WO.done ?_
              refine At.seq_wc ?_
              refine WC.then ?_
              refine WC.region [(0, true), (1, false), (2, false), (3, true)] rfl ?_
              refine WO.move rfl rfl rfl rfl ?_
              refine WO.loadA 0 3 rfl rfl rfl rfl ag_79 rfl rfl rfl ?_
              obtain ⟨x80, hx81, hr⟩ := bind_some' hr
              refine WO.call rfl rfl rfl rfl rfl cl_31 (CallsRet.lay 1 3 1 [0] [3, 1, 2] (by decide) (Mem.add F (List.flatten [χ])) ([(b_1_0_0, row [.int .i64 p1_0_0_0, .int .i64 p1_0_0_1, .int .i64 p1_0_0_2, .int .i64 p1_0_0_3, .int .i64 p1_0_0_4, .int .i64 p1_0_0_5, .int .i64 p1_0_0_6, .int .i64 p1_0_0_7, u_1_0_0_8, .int .i64 p1_0_0_9, u_1_0_0_10, .bool p1_0_0_11] 74)] :: [(b78, row [.int .i64 x68.seq, .int .i64 x68.at_, .slice a75 x68.b.length c76] 79)] :: p37 :: Φ) rfl rfl (link_Link_Hear_1_b_vvvvvvvvxvxv_ok (F := F) (χ := (List.flatten [χ])) ⟨_, _, rfl, (h77.mono (mono_int _) (Mem.le.trans (Mem.le_pick (Mem.add F χ) 1 [] (by decide)) (Mem.le_gather (Mem.add F χ) 1)))⟩ (hc_1_0.mono (Mem.le_gather (Mem.add F χ) 1)) hx81 ([(b78, row [.int .i64 x68.seq, .int .i64 x68.at_, .slice a75 x68.b.length c76] 79)] :: p37 :: Φ))) ?_
              rintro _ _ ⟨rfl, hs82⟩
              have hs82 := Sat.unlay F [χ] hs82
              have hs82 := (hs82.arrange 1 3 [0] [2, 3, 1] (by decide))
              refine ⟨(Mem.add F χ), ([(b78, row [.int .i64 x68.seq, .int .i64 x68.at_, .slice a75 x68.b.length c76] 79)] :: p37 :: [(b_1_0_0, row [.int .i64 p1_0_0_0, .int .i64 p1_0_0_1, .int .i64 p1_0_0_2, .int .i64 p1_0_0_3, .int .i64 p1_0_0_4, .int .i64 p1_0_0_5, .int .i64 p1_0_0_6, .int .i64 p1_0_0_7, u_1_0_0_8, .int .i64 p1_0_0_9, u_1_0_0_10, .bool p1_0_0_11] 74)] :: Φ), hs82, trivial, ?_⟩
              refine WO.un rfl rfl rfl rfl rfl ?_
              refine WO.done ?_
              refine At.seq_wc ?_
              refine WC.cond rfl (fun hb83 => ?_) (fun hb83 => ?_)
              · have hr := cond_t hb83 hr
                refine WC.then ?_
                refine WC.region [(0, true), (1, true), (2, false), (3, true), (4, false)] rfl ?_
                refine WO.move rfl rfl rfl rfl ?_
                refine WO.move rfl rfl rfl rfl ?_
                refine WO.loadA 0 3 rfl rfl rfl rfl ag_79 rfl rfl rfl ?_
                obtain ⟨x84, hx85, hr⟩ := bind_some' hr
                refine WO.indexQ ho38 hx85 rfl rfl rfl rfl rfl rfl Try.underlying72 sz_79 (fun b86 cs87 hb88 h89 hq90 => ?_)
                obtain rfl : b70 = b86 := by cases hb88; rfl
                obtain ⟨a91, c92, rfl, h93⟩ := h89
                refine WO.storeQA 1 0 3 x68 hq90 rfl rfl rfl rfl rfl rfl sz_79 rfl rfl rfl ⟨_, _, rfl, h77⟩ rfl (fun _ _ _ => trivial) (fun p94 ho95 hq96 => ?_)
                refine WO.relen 0 (k' := (List.set v34 (Int.toNat v40) x68).length) rfl (List.length_set ..).symm ?_
                refine WO.relen 17 (k' := (List.set v34 (Int.toNat v40) x68).length) rfl (List.length_set ..).symm ?_
                refine WO.relen 22 (k' := (List.set v34 (Int.toNat v40) x68).length) rfl (List.length_set ..).symm ?_
                refine WO.relen 30 (k' := (List.set v34 (Int.toNat v40) x68).length) rfl (List.length_set ..).symm ?_
                refine WO.done ?_
                refine At.seq_wc ?_
                refine WC.region [(0, true), (1, true), (2, true)] rfl ?_
                refine WO.move rfl rfl rfl rfl ?_
                refine WO.bin rfl rfl rfl rfl rfl rfl ?_
                refine WO.assign rfl rfl rfl rfl ?_
                refine WO.done ?_
                refine At.block_normal ?_
                refine At.seq_at ?_
                exact fun a w hc hs => ⟨(List.set v34 (Int.toNat v40) x68), (IntKind.wrap .i64 (v40 + 1)), (some ⟨b70, 0, none⟩), c36, p94, hr, (hc.keep (hc.keep (hc.keep (hc.keep hc.nil (t := 6) rfl) (t := 5) rfl) (t := 1) rfl) (t := 0) rfl), (hs.arrange 1 3 [0] [2, 3] (by decide)), ho95⟩
              · have hr := cond_f hb83 hr
                refine WC.skip ?_
                refine At.block_normal ?_
                refine At.seq_at ?_
                exact fun a w hc hs => ⟨v34, v40, (some ⟨b70, 0, none⟩), c36, p37, hr, (hc.keep (hc.keep (hc.keep (hc.keep hc.nil (t := 6) rfl) (t := 5) rfl) (t := 1) rfl) (t := 0) rfl), (hs.arrange 1 3 [0] [2, 3] (by decide)), ho38⟩
            · rintro a w ⟨v61, v67, a62, c63, p64, hr, hc, hs, ho65⟩
              refine WC.use hc hs ?_
              clear hc hs
              unfold slices_DeleteFunc_link_body_link_body_w_Flink_Link_Hear_1_b_vvvvvvvvxvxv_k4 at hr
              refine WC.region [(0, true), (1, true), (2, true)] rfl ?_
              refine WO.move rfl rfl rfl rfl ?_
              refine WO.bin rfl rfl rfl rfl rfl rfl ?_
              refine WO.assign rfl rfl rfl rfl ?_
              refine WO.done ?_
              refine At.round_next hr ?_
              exact fun a w hc hs => ⟨a62, c63, p64, (hc.keep (hc.keep (hc.keep (hc.keep hc.nil (t := 6) rfl) (t := 5) rfl) (t := 1) rfl) (t := 0) rfl), hs, ho65⟩
          · have hr := cond_f hb59 hr
            refine WC.exit ?_
            refine At.seq_exit ?_
            refine At.round_exit hr (fun hy => ?_)
            refine At.exit_block ?_
            refine At.seq_at ?_
            exact fun a w hc hs => ⟨v34, v40, a35, c36, p37, hy, (hc.keep (hc.keep hc.nil (t := 5) rfl) (t := 0) rfl), hs, ho38⟩
      · rintro a w ⟨v52, v58, a53, c54, p55, rfl, hc, hs, ho56⟩
        refine At.use hc hs ?_
        clear hc hs
        (try dsimp only at hk3)
        have hr := hk3
        refine At.seq_at ?_
        exact fun a w hc hs => ⟨v52, v58, a53, c54, p55, hr, (hc.keep (hc.keep hc.nil (t := 5) rfl) (t := 0) rfl), hs, ho56⟩
    · rintro a w ⟨v6, v12, a7, c8, p9, hr, hc, hs, ho10⟩
      refine WC.use hc hs ?_
      clear hc hs
      unfold slices_DeleteFunc_link_body_link_body_w_Flink_Link_Hear_1_b_vvvvvvvvxvxv_k1 at hr
      refine WC.then ?_
      refine WC.region [(0, true), (1, true), (2, true), (3, false)] rfl ?_
      refine WO.move rfl rfl rfl rfl ?_
      refine WO.move rfl rfl rfl rfl ?_
      obtain ⟨hk13, hr⟩ := guardO_some hr
      refine WO.sliceTail ho10 hk13 rfl rfl rfl rfl rfl rfl Try.underlying72 sz_79 (fun a14 c15 ht16 => ?_)
      refine WO.clearTail (zs := [.int .i64 0, .int .i64 0, .slice none 0 0]) (z' := (⟨0, 0, ([] : List Int)⟩ : S_link_body)) 0 ho10 ht16 (by have := hk13; omega) rfl zb_79 rfl rfl rfl ⟨_, _, rfl, RdL.nil⟩ rfl rfl rfl rfl Try.underlying72 (fun _ _ _ => trivial) (fun p17 ho18 => ?_)
      refine WO.relen 0 (k' := (List.take (Int.toNat v12) v6 ++ List.replicate (v6.length - (Int.toNat v12)) (⟨0, 0, ([] : List Int)⟩ : S_link_body)).length) rfl (by simp only [List.length_append, List.length_take, List.length_replicate]; have := hk13; omega) ?_
      refine WO.relen 36 (k' := (List.take (Int.toNat v12) v6 ++ List.replicate (v6.length - (Int.toNat v12)) (⟨0, 0, ([] : List Int)⟩ : S_link_body)).length) rfl (by simp only [List.length_append, List.length_take, List.length_replicate]; have := hk13; omega) ?_
      refine WO.done ?_
      refine At.seq_wc ?_
      refine WC.then ?_
      refine WC.region [(0, true), (1, true), (2, true), (3, true)] rfl ?_
      refine WO.move rfl rfl rfl rfl ?_
      refine WO.move rfl rfl rfl rfl ?_
      obtain ⟨x19, hx20, hr⟩ := bind_some' hr
      refine WO.sliceTo ho18 hx20 rfl rfl rfl rfl rfl rfl Try.underlying72 sz_79 (fun a21 ho22 => ?_)
      refine WO.assign rfl rfl rfl rfl ?_
      refine WO.done ?_
      refine At.seq_wc ?_
      refine WC.ret ?_
      obtain rfl := Option.some.inj hr
      exact At.ret (fun a w hc hs => (resVs_cons (hc.res rfl) resVs_nil)) (fun w hs => ⟨_, _, _, rfl, hs, ho22⟩)
/-! (*peloton/link.Link).Hear -/
def link_Link_Hear_vvvvvvvvovmv_b3 (v87 : List (List Int)) (v93 : S_link_Link) : Option (((List (List Int)) × S_link_Link) ⊕ (Lp ((List (List Int)) × Int × S_link_Link) Unit)) := (some (Option.getD (mget v93.early (IntKind.wrap .i64 (v93.got + 1))) ([] : List Int))).bind fun x120 => cond (!(Option.isSome (mget v93.early (IntKind.wrap .i64 (v93.got + 1))))) (some (.inr (.ret (v87, 0, v93)))) ((app v87 [x120]).bind fun x132 => some (.inl (x132, (⟨v93.window, v93.span, v93.room, v93.epoch, v93.now, v93.next, v93.acked, v93.sent, v93.out, (IntKind.wrap .i64 (v93.got + 1)), (mdel v93.early (IntKind.wrap .i64 (v93.got + 1))), v93.owes⟩ : S_link_Link))))
def link_Link_Hear_vvvvvvvvovmv_k2 (p0 : S_link_Link) (p1 : S_api_Seg) (x17 : (List S_link_body)) (v29 : List (Int × List Int)) : Option ((List (List Int)) × Int × S_link_Link) := (loopO (fun s => link_Link_Hear_vvvvvvvvovmv_b3  s.1 s.2) (([] : List (List Int)), (⟨p0.window, p0.span, p0.room, p0.epoch, p0.now, p0.next, (if p1.Ack > p0.acked then p1.Ack else p0.acked), p0.sent, x17, p0.got, v29, true⟩ : S_link_Link))).bind (fun | .ret r => some r | .brk _ => none)
def link_Link_Hear_vvvvvvvvovmv_k5 (p0 : S_link_Link) (p1 : S_api_Seg) (x17 : (List S_link_body)) (v148 : Bool) : Option ((List (List Int)) × Int × S_link_Link) := cond v148 ((bytes_Clone p1.Body).bind fun x150 => link_Link_Hear_vvvvvvvvovmv_k2 p0 p1 x17 (mput p0.early p1.Seq x150)) (link_Link_Hear_vvvvvvvvovmv_k2 p0 p1 x17 p0.early)
def link_Link_Hear_vvvvvvvvovmv_k1 (p0 : S_link_Link) (p1 : S_api_Seg) (v12 : Bool) : Option ((List (List Int)) × Int × S_link_Link) := cond v12 (some (([] : List (List Int)), 150, p0)) ((slices_DeleteFunc_link_body_link_body_w_Flink_Link_Hear_1_b_vvvvvvvvxvxv p0.out p0.window p0.span p0.room p0.epoch p0.now p0.next (if p1.Ack > p0.acked then p1.Ack else p0.acked) p0.sent p0.got p0.owes).bind fun x17 => cond (p1.Seq == 0) (some (([] : List (List Int)), 0, (⟨p0.window, p0.span, p0.room, p0.epoch, p0.now, p0.next, (if p1.Ack > p0.acked then p1.Ack else p0.acked), p0.sent, x17, p0.got, p0.early, p0.owes⟩ : S_link_Link))) ((some (Option.getD (mget p0.early p1.Seq) ([] : List Int))).bind fun x140 => cond (decide (p1.Seq > p0.got)) (cond (decide (p1.Seq ≤ (IntKind.wrap .i64 (p0.got + p0.window)))) (link_Link_Hear_vvvvvvvvovmv_k5 p0 p1 x17 (!(Option.isSome (mget p0.early p1.Seq)))) (link_Link_Hear_vvvvvvvvovmv_k5 p0 p1 x17 false)) (link_Link_Hear_vvvvvvvvovmv_k5 p0 p1 x17 false)))
def link_Link_Hear_vvvvvvvvovmv (p0 : S_link_Link) (p1 : S_api_Seg) : Option ((List (List Int)) × Int × S_link_Link) := cond (p1.Epoch != p0.epoch) (some (([] : List (List Int)), 160, p0)) (cond (decide (p1.Ack < 0)) (link_Link_Hear_vvvvvvvvovmv_k1 p0 p1 true) (cond (decide (p1.Ack > p0.sent)) (link_Link_Hear_vvvvvvvvovmv_k1 p0 p1 true) (cond (decide (p1.Seq < 0)) (link_Link_Hear_vvvvvvvvovmv_k1 p0 p1 true) (cond (p1.Seq == 0) (link_Link_Hear_vvvvvvvvovmv_k1 p0 p1 (decide ((p1.Body.length : Int) > 0))) (link_Link_Hear_vvvvvvvvovmv_k1 p0 p1 false)))))
theorem link_Link_Hear_vvvvvvvvovmv_ok {F : Mem} {χ : List Chunk} {p0 : S_link_Link} {p1 : S_api_Seg} {b_0 : Nat} {a_0_8 : Option Addr} {c_0_8 : Nat} {ψ_0_8 : List Chunk} (ho_0_8 : OwnL 3 R_link_body F 79 a_0_8 c_0_8 p0.out ψ_0_8) {bm_0_10 : Nat} {ψ_0_10 : List Chunk} (hm_0_10 : OwnM (fun x : Int => Value.int .i64 x) (RV1 (RSl 1 (RInt .u8))) F bm_0_10 p0.early ψ_0_10) {cs_1 : List Value} (h_1 : R_api_Seg (Mem.add F χ) cs_1 p1) {r : (List (List Int)) × Int × S_link_Link} (hr : link_Link_Hear_vvvvvvvvovmv p0 p1 = some r) (Φ : List (List Chunk)) :
    CallsRet Try.prog 18 (List.toArray [.pointer (some ⟨b_0, 0, none⟩), .agg cs_1.toArray]) (Mem.add F χ) ([(b_0, row [.int .i64 p0.window, .int .i64 p0.span, .int .i64 p0.room, .int .i64 p0.epoch, .int .i64 p0.now, .int .i64 p0.next, .int .i64 p0.acked, .int .i64 p0.sent, .slice a_0_8 p0.out.length c_0_8, .int .i64 p0.got, .map (some bm_0_10), .bool p0.owes] 74)] :: ψ_0_8 :: ψ_0_10 :: Φ) (fun v w => ∃ ψm a0 c0 ψ0 a0_8 c0_8 ψ0_8 bm0_10 ψ0_10, v = .tuple (List.toArray [.slice a0 r.1.length c0, .int .i64 r.2.1]) ∧ Sat (Mem.add (Mem.add F χ) ψm) (ψ0 :: [(b_0, row [.int .i64 r.2.2.window, .int .i64 r.2.2.span, .int .i64 r.2.2.room, .int .i64 r.2.2.epoch, .int .i64 r.2.2.now, .int .i64 r.2.2.next, .int .i64 r.2.2.acked, .int .i64 r.2.2.sent, .slice a0_8 r.2.2.out.length c0_8, .int .i64 r.2.2.got, .map (some bm0_10), .bool r.2.2.owes] 74)] :: ψ0_8 :: ψ0_10 :: Φ) w ∧ OwnL 1 (RSl 1 (RInt .u8)) (Mem.add F ψm) 38 a0 c0 r.1 ψ0 ∧ OwnL 3 R_link_body (Mem.add F ψm) 79 a0_8 c0_8 r.2.2.out ψ0_8 ∧ OwnM (fun x : Int => Value.int .i64 x) (RV1 (RSl 1 (RInt .u8))) (Mem.add F ψm) bm0_10 r.2.2.early ψ0_10) := by
  obtain ⟨a1, c2, rfl, h3⟩ := h_1
  refine CallsRet.enter (rs := [.tmp 4, .tmp 5]) Try.func18 rfl rfl rfl rfl ?_
  unfold link_Link_Hear_vvvvvvvvovmv at hr
  refine WC.then ?_
  refine WC.region [(0, false), (1, false), (2, true), (3, true)] rfl ?_
  refine WO.box rfl rfl rfl rfl rfl (fun _ _ _ => trivial) (fun b4 => ?_)
  refine WO.box rfl rfl rfl rfl rfl (fun _ _ _ => trivial) (fun b6 => ?_)
  refine WO.assign rfl rfl rfl rfl ?_
  refine WO.assign rfl rfl rfl rfl ?_
  refine WO.done ?_
  refine At.seq_wc ?_
  refine WC.then ?_
  refine WC.block ?_
  refine WC.then ?_
  refine WC.draw (Sat (Mem.add F χ) ([(b6, row [.int .i64 p1.Epoch, .int .i64 p1.Seq, .int .i64 p1.Ack, .slice a1 p1.Body.length c2] 46)] :: [(b4, row [.pointer (some ⟨b_0, 0, none⟩)] 27)] :: [(b_0, row [.int .i64 p0.window, .int .i64 p0.span, .int .i64 p0.room, .int .i64 p0.epoch, .int .i64 p0.now, .int .i64 p0.next, .int .i64 p0.acked, .int .i64 p0.sent, .slice a_0_8 p0.out.length c_0_8, .int .i64 p0.got, .map (some bm_0_10), .bool p0.owes] 74)] :: ψ_0_8 :: ψ_0_10 :: Φ)) (fun _ h => (h.arrange 1 5 [0] [1, 2, 3, 4, 5] (by decide))) [(0, true), (1, true), (2, true), (3, true), (4, true), (5, true), (6, true), (7, true)] mixed (by kernel_rfl) rfl (by kernel_rfl) ?_
  refine WO.fieldAddr 0 rfl rfl rfl rfl fl_46_0 ?_
  refine WO.loadY 0 rfl rfl rfl rfl sc_3 rfl rfl ?_
  refine WO.loadY 1 rfl rfl rfl rfl sc_27 rfl rfl ?_
  refine WO.nilCheck rfl rfl rfl rfl ?_
  refine WO.fieldAddr 3 rfl rfl rfl rfl fl_74_3 ?_
  refine WO.loadY 2 rfl rfl rfl rfl sc_3 rfl rfl ?_
  refine WO.bin rfl rfl rfl rfl rfl rfl ?_
  refine WO.assign rfl rfl rfl rfl ?_
  refine WO.done ?_
  refine At.seq_wc ?_
  refine WC.cond rfl (fun hb8 => ?_) (fun hb8 => ?_)
  · have hr := cond_t hb8 hr
    refine WC.then ?_
    refine WC.region [(0, true), (1, true)] rfl ?_
    refine WO.assign rfl rfl rfl rfl ?_
    refine WO.assign rfl rfl rfl rfl ?_
    refine WO.done ?_
    refine At.seq_wc ?_
    refine WC.ret ?_
    refine At.block_ret ?_
    refine At.seq_ret ?_
    refine At.empty ?_
    have ho10 : OwnL 1 (RSl 1 (RInt .u8)) F 38 none 0 ([] : List (List Int)) [] := OwnL.nil
    obtain rfl := Option.some.inj hr
    exact At.ret (fun a w hc hs => (resVs_cons (hc.res rfl) (resVs_cons (hc.res rfl) resVs_nil))) (fun w hs => ⟨(List.flatten []), _, _, _, _, _, _, _, _, rfl, ((hs.arrange 1 6 [0] [1, 4, 5, 6] (by decide)).gather 0), (ho10.mono (mono_sl (mono_int _)) (Mem.le_gather F 0)), (ho_0_8.mono mono_link_body (Mem.le_gather F 0)), (hm_0_10.mono (monoV1 (mono_sl (mono_int _))) (Mem.le_gather F 0))⟩)
  · have hr := cond_f hb8 hr
    refine WC.seq (fun a w => ∃ (v12 : Bool), link_Link_Hear_vvvvvvvvovmv_k1 p0 p1 v12 = some r ∧ Ctx 152 [(2, .pointer (some ⟨b4, 0, none⟩)), (3, .pointer (some ⟨b6, 0, none⟩)), (19, .bool v12)] a ∧ Sat (Mem.add F χ) ([(b6, row [.int .i64 p1.Epoch, .int .i64 p1.Seq, .int .i64 p1.Ack, .slice a1 p1.Body.length c2] 46)] :: [(b4, row [.pointer (some ⟨b_0, 0, none⟩)] 27)] :: [(b_0, row [.int .i64 p0.window, .int .i64 p0.span, .int .i64 p0.room, .int .i64 p0.epoch, .int .i64 p0.now, .int .i64 p0.next, .int .i64 p0.acked, .int .i64 p0.sent, .slice a_0_8 p0.out.length c_0_8, .int .i64 p0.got, .map (some bm_0_10), .bool p0.owes] 74)] :: ψ_0_8 :: ψ_0_10 :: Φ) w) ?_ ?_
    · refine WC.draw (Sat (Mem.add F χ) ([(b6, row [.int .i64 p1.Epoch, .int .i64 p1.Seq, .int .i64 p1.Ack, .slice a1 p1.Body.length c2] 46)] :: [(b4, row [.pointer (some ⟨b_0, 0, none⟩)] 27)] :: [(b_0, row [.int .i64 p0.window, .int .i64 p0.span, .int .i64 p0.room, .int .i64 p0.epoch, .int .i64 p0.now, .int .i64 p0.next, .int .i64 p0.acked, .int .i64 p0.sent, .slice a_0_8 p0.out.length c_0_8, .int .i64 p0.got, .map (some bm_0_10), .bool p0.owes] 74)] :: ψ_0_8 :: ψ_0_10 :: Φ)) (fun _ h => (h.arrange 1 5 [0] [1, 2, 3, 4, 5] (by decide))) [(0, true), (1, true), (2, true), (3, true), (4, true), (5, true), (6, true), (7, true), (8, true), (9, true), (10, true), (11, true), (12, true), (13, true), (14, true), (15, true), (16, true), (17, true), (18, true), (19, true), (20, true), (21, true), (22, true), (23, true), (24, true), (25, true), (26, true), (27, true), (28, true)] mixed (by kernel_rfl) rfl (by kernel_rfl) ?_
      refine WO.fieldAddr 2 rfl rfl rfl rfl fl_46_2 ?_
      refine WO.loadY 0 rfl rfl rfl rfl sc_3 rfl rfl ?_
      refine WO.bin rfl rfl rfl rfl rfl rfl ?_
      refine WO.move rfl rfl rfl rfl ?_
      refine WO.split (t := 23) rfl (fun hg163 => ?_) (fun hg163 => ?_)
      · have hr := cond_t hg163 hr
        refine WO.skip rfl rfl rfl rfl ?_
        refine WO.skip rfl rfl rfl rfl ?_
        refine WO.skip rfl rfl rfl rfl ?_
        refine WO.skip rfl rfl rfl rfl ?_
        refine WO.skip rfl rfl rfl rfl ?_
        refine WO.skip rfl rfl rfl rfl ?_
        refine WO.skip rfl rfl rfl rfl ?_
        refine WO.pickT rfl rfl rfl rfl rfl ?_
        refine WO.move rfl rfl rfl rfl ?_
        refine WO.skip rfl rfl rfl rfl ?_
        refine WO.skip rfl rfl rfl rfl ?_
        refine WO.skip rfl rfl rfl rfl ?_
        refine WO.pickT rfl rfl rfl rfl rfl ?_
        refine WO.move rfl rfl rfl rfl ?_
        refine WO.skip rfl rfl rfl rfl ?_
        refine WO.skip rfl rfl rfl rfl ?_
        refine WO.skip rfl rfl rfl rfl ?_
        refine WO.skip rfl rfl rfl rfl ?_
        refine WO.skip rfl rfl rfl rfl ?_
        refine WO.skip rfl rfl rfl rfl ?_
        refine WO.skip rfl rfl rfl rfl ?_
        refine WO.skip rfl rfl rfl rfl ?_
        refine WO.skip rfl rfl rfl rfl ?_
        refine WO.pickT rfl rfl rfl rfl rfl ?_
        refine WO.assign rfl rfl rfl rfl ?_
        refine WO.done ?_
        refine At.seq_at ?_
        exact fun a w hc hs => ⟨true, hr, (hc.keep (hc.keep (hc.keep hc.nil (t := 19) rfl) (t := 3) rfl) (t := 2) rfl), hs⟩
      · have hr := cond_f hg163 hr
        refine WO.fieldAddr 2 rfl rfl rfl rfl fl_46_2 ?_
        refine WO.loadY 0 rfl rfl rfl rfl sc_3 rfl rfl ?_
        refine WO.loadY 1 rfl rfl rfl rfl sc_27 rfl rfl ?_
        refine WO.nilCheck rfl rfl rfl rfl ?_
        refine WO.fieldAddr 7 rfl rfl rfl rfl fl_74_7 ?_
        refine WO.loadY 2 rfl rfl rfl rfl sc_3 rfl rfl ?_
        refine WO.bin rfl rfl rfl rfl rfl rfl ?_
        refine WO.pickF rfl rfl rfl rfl rfl ?_
        refine WO.move rfl rfl rfl rfl ?_
        refine WO.split (t := 32) rfl (fun hg164 => ?_) (fun hg164 => ?_)
        · have hr := cond_t hg164 hr
          refine WO.skip rfl rfl rfl rfl ?_
          refine WO.skip rfl rfl rfl rfl ?_
          refine WO.skip rfl rfl rfl rfl ?_
          refine WO.pickT rfl rfl rfl rfl rfl ?_
          refine WO.move rfl rfl rfl rfl ?_
          refine WO.skip rfl rfl rfl rfl ?_
          refine WO.skip rfl rfl rfl rfl ?_
          refine WO.skip rfl rfl rfl rfl ?_
          refine WO.skip rfl rfl rfl rfl ?_
          refine WO.skip rfl rfl rfl rfl ?_
          refine WO.skip rfl rfl rfl rfl ?_
          refine WO.skip rfl rfl rfl rfl ?_
          refine WO.skip rfl rfl rfl rfl ?_
          refine WO.skip rfl rfl rfl rfl ?_
          refine WO.pickT rfl rfl rfl rfl rfl ?_
          refine WO.assign rfl rfl rfl rfl ?_
          refine WO.done ?_
          refine At.seq_at ?_
          exact fun a w hc hs => ⟨true, hr, (hc.keep (hc.keep (hc.keep hc.nil (t := 19) rfl) (t := 3) rfl) (t := 2) rfl), hs⟩
        · have hr := cond_f hg164 hr
          refine WO.fieldAddr 1 rfl rfl rfl rfl fl_46_1 ?_
          refine WO.loadY 0 rfl rfl rfl rfl sc_3 rfl rfl ?_
          refine WO.bin rfl rfl rfl rfl rfl rfl ?_
          refine WO.pickF rfl rfl rfl rfl rfl ?_
          refine WO.move rfl rfl rfl rfl ?_
          refine WO.split (t := 37) rfl (fun hg165 => ?_) (fun hg165 => ?_)
          · have hr := cond_t hg165 hr
            refine WO.skip rfl rfl rfl rfl ?_
            refine WO.skip rfl rfl rfl rfl ?_
            refine WO.skip rfl rfl rfl rfl ?_
            refine WO.skip rfl rfl rfl rfl ?_
            refine WO.skip rfl rfl rfl rfl ?_
            refine WO.skip rfl rfl rfl rfl ?_
            refine WO.skip rfl rfl rfl rfl ?_
            refine WO.skip rfl rfl rfl rfl ?_
            refine WO.skip rfl rfl rfl rfl ?_
            refine WO.pickT rfl rfl rfl rfl rfl ?_
            refine WO.assign rfl rfl rfl rfl ?_
            refine WO.done ?_
            refine At.seq_at ?_
            exact fun a w hc hs => ⟨true, hr, (hc.keep (hc.keep (hc.keep hc.nil (t := 19) rfl) (t := 3) rfl) (t := 2) rfl), hs⟩
          · have hr := cond_f hg165 hr
            refine WO.fieldAddr 1 rfl rfl rfl rfl fl_46_1 ?_
            refine WO.loadY 0 rfl rfl rfl rfl sc_3 rfl rfl ?_
            refine WO.bin rfl rfl rfl rfl rfl rfl ?_
            refine WO.move rfl rfl rfl rfl ?_
            refine WO.split (t := 41) rfl (fun hg166 => ?_) (fun hg166 => ?_)
            · have hr := cond_t hg166 hr
              refine WO.fieldAddr 3 rfl rfl rfl rfl fl_46_3 ?_
              refine WO.loadY 0 rfl rfl rfl rfl sc_38 rfl rfl ?_
              refine WO.len rfl rfl rfl rfl Try.underlying38 ?_
              refine WO.bin rfl rfl rfl rfl rfl rfl ?_
              refine WO.pickT rfl rfl rfl rfl rfl ?_
              refine WO.pickF rfl rfl rfl rfl rfl ?_
              refine WO.assign rfl rfl rfl rfl ?_
              refine WO.done ?_
              refine At.seq_at ?_
              exact fun a w hc hs => ⟨(decide ((p1.Body.length : Int) > 0)), hr, (hc.keep (hc.keep (hc.keep hc.nil (t := 19) rfl) (t := 3) rfl) (t := 2) rfl), hs⟩
            · have hr := cond_f hg166 hr
              refine WO.skip rfl rfl rfl rfl ?_
              refine WO.skip rfl rfl rfl rfl ?_
              refine WO.skip rfl rfl rfl rfl ?_
              refine WO.skip rfl rfl rfl rfl ?_
              refine WO.pickF rfl rfl rfl rfl rfl ?_
              refine WO.pickF rfl rfl rfl rfl rfl ?_
              refine WO.assign rfl rfl rfl rfl ?_
              refine WO.done ?_
              refine At.seq_at ?_
              exact fun a w hc hs => ⟨false, hr, (hc.keep (hc.keep (hc.keep hc.nil (t := 19) rfl) (t := 3) rfl) (t := 2) rfl), hs⟩
    · rintro a w ⟨v12, hr, hc, hs⟩
      refine WC.use hc hs ?_
      clear hc hs
      unfold link_Link_Hear_vvvvvvvvovmv_k1 at hr
      refine WC.cond rfl (fun hb13 => ?_) (fun hb13 => ?_)
      · have hr := cond_t hb13 hr
        refine WC.then ?_
        refine WC.region [(0, true), (1, true)] rfl ?_
        refine WO.assign rfl rfl rfl rfl ?_
        refine WO.assign rfl rfl rfl rfl ?_
        refine WO.done ?_
        refine At.seq_wc ?_
        refine WC.ret ?_
        refine At.block_ret ?_
        refine At.seq_ret ?_
        refine At.empty ?_
        have ho15 : OwnL 1 (RSl 1 (RInt .u8)) F 38 none 0 ([] : List (List Int)) [] := OwnL.nil
        obtain rfl := Option.some.inj hr
        exact At.ret (fun a w hc hs => (resVs_cons (hc.res rfl) (resVs_cons (hc.res rfl) resVs_nil))) (fun w hs => ⟨(List.flatten []), _, _, _, _, _, _, _, _, rfl, ((hs.arrange 1 6 [0] [1, 4, 5, 6] (by decide)).gather 0), (ho15.mono (mono_sl (mono_int _)) (Mem.le_gather F 0)), (ho_0_8.mono mono_link_body (Mem.le_gather F 0)), (hm_0_10.mono (monoV1 (mono_sl (mono_int _))) (Mem.le_gather F 0))⟩)
      · have hr := cond_f hb13 hr
        refine WC.skip ?_
        refine At.block_normal ?_
        refine At.seq_wc ?_
        refine WC.then ?_
        refine WC.draw (Sat (Mem.add F χ) ([(b6, row [.int .i64 p1.Epoch, .int .i64 p1.Seq, .int .i64 p1.Ack, .slice a1 p1.Body.length c2] 46)] :: [(b4, row [.pointer (some ⟨b_0, 0, none⟩)] 27)] :: ψ_0_10 :: Φ)) (fun _ h => (h.arrange 1 5 [0] [1, 2, 5] (by decide))) [(0, true), (1, true), (2, true), (3, true), (5, true), (6, true), (4, false), (7, true), (8, true), (9, true), (10, false)] mixed (by kernel_rfl) rfl (by kernel_rfl) ?_
        refine WO.loadY 1 rfl rfl rfl rfl sc_27 rfl rfl ?_
        refine WO.loadY 1 rfl rfl rfl rfl sc_27 rfl rfl ?_
        refine WO.nilCheck rfl rfl rfl rfl ?_
        refine WO.fieldAddr 6 rfl rfl rfl rfl fl_74_6 ?_
        refine WO.fieldAddr 2 rfl rfl rfl rfl fl_46_2 ?_
        refine WO.loadY 0 rfl rfl rfl rfl sc_3 rfl rfl ?_
        refine WO.load 2 rfl rfl rfl rfl sc_3 rfl rfl ?_
        refine WO.max2 rfl rfl rfl rfl rfl ?_
        refine WO.nilCheck rfl rfl rfl rfl ?_
        refine WO.fieldAddr 6 rfl rfl rfl rfl fl_74_6 ?_
        refine WO.store 2 rfl rfl rfl rfl sz_3 rfl rfl rfl (fun _ h => (h.arrange 1 5 [0] [1, 2, 5] (by decide))) ?_
        refine WO.done ?_
        refine At.seq_wc ?_
        refine WC.then ?_
        refine WC.draw (Sat (Mem.add F χ) ([(b6, row [.int .i64 p1.Epoch, .int .i64 p1.Seq, .int .i64 p1.Ack, .slice a1 p1.Body.length c2] 46)] :: [(b4, row [.pointer (some ⟨b_0, 0, none⟩)] 27)] :: Φ)) (fun _ h => (h.arrange 1 5 [0] [1, 2] (by decide))) [(0, true), (1, true), (2, true), (3, true), (5, true), (4, false), (6, false), (7, true), (8, true), (9, false)] mixed (by kernel_rfl) rfl (by kernel_rfl) ?_
        refine WO.loadY 1 rfl rfl rfl rfl sc_27 rfl rfl ?_
        refine WO.loadY 1 rfl rfl rfl rfl sc_27 rfl rfl ?_
        refine WO.nilCheck rfl rfl rfl rfl ?_
        refine WO.fieldAddr 8 rfl rfl rfl rfl fl_74_8 ?_
        refine WO.freeze 1 rfl ?_
        have hc16 := Cells.ofAdd F b4 [.pointer (some ⟨b_0, 0, none⟩)] 27
        refine WO.makeFunc (ca := [.tmp 2]) rfl rfl rfl rfl ?_
        refine WO.load 1 rfl rfl rfl rfl sc_72 rfl rfl ?_
        obtain ⟨x17, hx18, hr⟩ := bind_some' hr
        refine WO.call rfl rfl rfl rfl rfl cl_30 (CallsRet.lay 2 4 1 [0] [3, 4, 1, 2, 5] (by decide) (Mem.add F (List.flatten [[(b4, row [.pointer (some ⟨b_0, 0, none⟩)] 27)]])) ([(b_0, row [.int .i64 p0.window, .int .i64 p0.span, .int .i64 p0.room, .int .i64 p0.epoch, .int .i64 p0.now, .int .i64 p0.next, .int .i64 (if p1.Ack > p0.acked then p1.Ack else p0.acked), .int .i64 p0.sent, .slice a_0_8 p0.out.length c_0_8, .int .i64 p0.got, .map (some bm_0_10), .bool p0.owes] 74)] :: ψ_0_8 :: χ :: [(b6, row [.int .i64 p1.Epoch, .int .i64 p1.Seq, .int .i64 p1.Ack, .slice a1 p1.Body.length c2] 46)] :: ψ_0_10 :: Φ) rfl rfl (slices_DeleteFunc_link_body_link_body_w_Flink_Link_Hear_1_b_vvvvvvvvxvxv_ok (F := F) (χ := (List.flatten [[(b4, row [.pointer (some ⟨b_0, 0, none⟩)] 27)]])) ho_0_8 (hc16.mono (Mem.le_gather (Mem.add F [(b4, row [.pointer (some ⟨b_0, 0, none⟩)] 27)]) 1)) hx18 (χ :: [(b6, row [.int .i64 p1.Epoch, .int .i64 p1.Seq, .int .i64 p1.Ack, .slice a1 p1.Body.length c2] 46)] :: ψ_0_10 :: Φ))) ?_
        rintro _ _ ⟨a19, c20, p22, rfl, hs24, h21⟩
        have hs24 := Sat.unlay F [[(b4, row [.pointer (some ⟨b_0, 0, none⟩)] 27)]] hs24
        have hs24 := (hs24.arrange 1 5 [0, 3] [1, 4, 2, 5] (by decide))
        refine ⟨(Mem.add (Mem.add F χ) [(b4, row [.pointer (some ⟨b_0, 0, none⟩)] 27)]), (p22 :: [(b6, row [.int .i64 p1.Epoch, .int .i64 p1.Seq, .int .i64 p1.Ack, .slice a1 p1.Body.length c2] 46)] :: [(b_0, row [.int .i64 p0.window, .int .i64 p0.span, .int .i64 p0.room, .int .i64 p0.epoch, .int .i64 p0.now, .int .i64 p0.next, .int .i64 (if p1.Ack > p0.acked then p1.Ack else p0.acked), .int .i64 p0.sent, .slice a_0_8 p0.out.length c_0_8, .int .i64 p0.got, .map (some bm_0_10), .bool p0.owes] 74)] :: ψ_0_10 :: Φ), hs24, (hs24.arrange 2 4 [1] [3, 0] (by decide)), ?_⟩
        refine WO.nilCheck rfl rfl rfl rfl ?_
        refine WO.fieldAddr 8 rfl rfl rfl rfl fl_74_8 ?_
        refine WO.store 2 rfl rfl rfl rfl sz_72 rfl rfl rfl (fun _ h => (h.arrange 2 4 [1] [3, 0] (by decide))) ?_
        refine WO.done ?_
        refine At.seq_wc ?_
        refine WC.then ?_
        refine WC.then ?_
        refine WC.region [(0, true), (1, false), (2, true)] rfl ?_
        refine WO.fieldAddr 1 rfl rfl rfl rfl fl_46_1 ?_
        refine WO.load 1 rfl rfl rfl rfl sc_3 rfl rfl ?_
        refine WO.bin rfl rfl rfl rfl rfl rfl ?_
        refine WO.done ?_
        refine At.seq_wc ?_
        refine WC.cond rfl (fun hb25 => ?_) (fun hb25 => ?_)
        · have hr := cond_t hb25 hr
          refine WC.then ?_
          refine WC.region [(0, true), (1, true)] rfl ?_
          refine WO.assign rfl rfl rfl rfl ?_
          refine WO.assign rfl rfl rfl rfl ?_
          refine WO.done ?_
          refine At.seq_wc ?_
          refine WC.ret ?_
          refine At.seq_ret ?_
          refine At.empty ?_
          have ho27 : OwnL 1 (RSl 1 (RInt .u8)) F 38 none 0 ([] : List (List Int)) [] := OwnL.nil
          obtain rfl := Option.some.inj hr
          exact At.ret (fun a w hc hs => (resVs_cons (hc.res rfl) (resVs_cons (hc.res rfl) resVs_nil))) (fun w hs => ⟨(List.flatten []), _, _, _, _, _, _, _, _, rfl, ((hs.arrange 2 5 [1] [2, 5, 3, 6] (by decide)).gather 0), (ho27.mono (mono_sl (mono_int _)) (Mem.le_gather F 0)), (h21.mono mono_link_body (Mem.le_gather F 0)), (hm_0_10.mono (monoV1 (mono_sl (mono_int _))) (Mem.le_gather F 0))⟩)
        · have hr := cond_f hb25 hr
          refine WC.skip ?_
          refine At.seq_wc ?_
          refine WC.then ?_
          refine WC.region [(0, false), (1, true), (2, true), (3, false)] rfl ?_
          refine WO.loadPn 0 (hc16.mono (Mem.le_pick (Mem.add (Mem.add F χ) [(b4, row [.pointer (some ⟨b_0, 0, none⟩)] 27)]) 2 [0] (by decide))) rfl rfl rfl rfl rfl sc_27 rfl ?_
          refine WO.nilCheck rfl rfl rfl rfl ?_
          refine WO.fieldAddr 11 rfl rfl rfl rfl fl_74_11 ?_
          refine WO.store 2 rfl rfl rfl rfl sz_4 rfl rfl rfl (fun _ _ => trivial) ?_
          refine WO.done ?_
          refine At.seq_wc ?_
          refine WC.seq (fun a w => ∃ (v29 : List (Int × List Int)) (b30 : Nat) (p31 : List Chunk) (w28 : List Chunk), link_Link_Hear_vvvvvvvvovmv_k2 p0 p1 x17 v29 = some r ∧ Ctx 152 [(2, .pointer (some ⟨b4, 0, none⟩))] a ∧ Sat (Mem.add (Mem.add (Mem.add F χ) [(b4, row [.pointer (some ⟨b_0, 0, none⟩)] 27)]) w28) (p31 :: p22 :: [(b6, row [.int .i64 p1.Epoch, .int .i64 p1.Seq, .int .i64 p1.Ack, .slice a1 p1.Body.length c2] 46)] :: [(b_0, row [.int .i64 p0.window, .int .i64 p0.span, .int .i64 p0.room, .int .i64 p0.epoch, .int .i64 p0.now, .int .i64 p0.next, .int .i64 (if p1.Ack > p0.acked then p1.Ack else p0.acked), .int .i64 p0.sent, .slice a19 x17.length c20, .int .i64 p0.got, .map (some b30), .bool true] 74)] :: Φ) w ∧ OwnM (fun x : Int => Value.int .i64 x) (RV1 (RSl 1 (RInt .u8))) (Mem.add F w28) b30 v29 p31) ?_ ?_
          · refine WC.then ?_
            refine WC.draw (Sat (Mem.add (Mem.add F χ) [(b4, row [.pointer (some ⟨b_0, 0, none⟩)] 27)]) (p22 :: [(b6, row [.int .i64 p1.Epoch, .int .i64 p1.Seq, .int .i64 p1.Ack, .slice a1 p1.Body.length c2] 46)] :: [(b_0, row [.int .i64 p0.window, .int .i64 p0.span, .int .i64 p0.room, .int .i64 p0.epoch, .int .i64 p0.now, .int .i64 p0.next, .int .i64 (if p1.Ack > p0.acked then p1.Ack else p0.acked), .int .i64 p0.sent, .slice a19 x17.length c20, .int .i64 p0.got, .map (some bm_0_10), .bool true] 74)] :: ψ_0_10 :: Φ)) (fun _ h => (h.arrange 2 4 [0, 1] [2, 3, 4, 5] (by decide))) [(0, true), (1, true), (2, true), (3, true), (4, true), (5, true), (6, true), (7, true), (8, true), (9, true), (10, true), (11, true)] mixed (by kernel_rfl) rfl (by kernel_rfl) ?_
            refine WO.loadP 0 (hc16.mono (Mem.le_pick (Mem.add (Mem.add F χ) [(b4, row [.pointer (some ⟨b_0, 0, none⟩)] 27)]) 2 [0] (by decide))) rfl rfl rfl rfl rfl sc_27 rfl ?_
            refine WO.nilCheck rfl rfl rfl rfl ?_
            refine WO.fieldAddr 10 rfl rfl rfl rfl fl_74_10 ?_
            refine WO.loadY 2 rfl rfl rfl rfl sc_71 rfl rfl ?_
            refine WO.fieldAddr 1 rfl rfl rfl rfl fl_46_1 ?_
            refine WO.loadY 1 rfl rfl rfl rfl sc_3 rfl rfl ?_
            obtain ⟨x140, hx141, hr⟩ := bind_some' hr
            have hx141 := Option.some.inj hx141
            refine WO.lookupY (q := p1.Seq) (z' := ([] : List Int)) true 3 key_3 hm_0_10 rfl zb_38 ⟨rfl, _, _, rfl, RdL.nil⟩ rfl rfl rfl rfl rfl Try.underlying71 (fun v142 hv143 => ?_)
            rw [hx141] at hv143
            obtain ⟨_, a144, c145, hv143, h146⟩ := hv143
            obtain rfl := (List.cons.inj hv143).1
            refine WO.move rfl rfl rfl rfl ?_
            refine WO.extract rfl rfl rfl rfl rfl ?_
            refine WO.extract rfl rfl rfl rfl rfl ?_
            refine WO.assign rfl rfl rfl rfl ?_
            refine WO.assign rfl rfl rfl rfl ?_
            refine WO.done ?_
            refine At.seq_wc ?_
            refine WC.seq (fun a w => ∃ (v148 : Bool), link_Link_Hear_vvvvvvvvovmv_k5 p0 p1 x17 v148 = some r ∧ Ctx 152 [(2, .pointer (some ⟨b4, 0, none⟩)), (3, .pointer (some ⟨b6, 0, none⟩)), (107, .bool v148)] a ∧ Sat (Mem.add (Mem.add F χ) [(b4, row [.pointer (some ⟨b_0, 0, none⟩)] 27)]) (p22 :: [(b6, row [.int .i64 p1.Epoch, .int .i64 p1.Seq, .int .i64 p1.Ack, .slice a1 p1.Body.length c2] 46)] :: [(b_0, row [.int .i64 p0.window, .int .i64 p0.span, .int .i64 p0.room, .int .i64 p0.epoch, .int .i64 p0.now, .int .i64 p0.next, .int .i64 (if p1.Ack > p0.acked then p1.Ack else p0.acked), .int .i64 p0.sent, .slice a19 x17.length c20, .int .i64 p0.got, .map (some bm_0_10), .bool true] 74)] :: ψ_0_10 :: Φ) w) ?_ ?_
            · refine WC.draw (Sat (Mem.add (Mem.add F χ) [(b4, row [.pointer (some ⟨b_0, 0, none⟩)] 27)]) (p22 :: [(b6, row [.int .i64 p1.Epoch, .int .i64 p1.Seq, .int .i64 p1.Ack, .slice a1 p1.Body.length c2] 46)] :: [(b_0, row [.int .i64 p0.window, .int .i64 p0.span, .int .i64 p0.room, .int .i64 p0.epoch, .int .i64 p0.now, .int .i64 p0.next, .int .i64 (if p1.Ack > p0.acked then p1.Ack else p0.acked), .int .i64 p0.sent, .slice a19 x17.length c20, .int .i64 p0.got, .map (some bm_0_10), .bool true] 74)] :: ψ_0_10 :: Φ)) (fun _ h => (h.arrange 2 4 [0, 1] [2, 3, 4, 5] (by decide))) [(0, true), (1, true), (2, true), (3, true), (4, true), (5, true), (6, true), (7, true), (8, true), (9, true), (10, true), (11, true), (12, true), (13, true), (14, true), (15, true), (16, true), (17, true), (18, true), (19, true), (20, true), (21, true), (22, true), (23, true), (24, true)] mixed (by kernel_rfl) rfl (by kernel_rfl) ?_
              refine WO.fieldAddr 1 rfl rfl rfl rfl fl_46_1 ?_
              refine WO.loadY 1 rfl rfl rfl rfl sc_3 rfl rfl ?_
              refine WO.loadP 0 (hc16.mono (Mem.le_pick (Mem.add (Mem.add F χ) [(b4, row [.pointer (some ⟨b_0, 0, none⟩)] 27)]) 2 [0] (by decide))) rfl rfl rfl rfl rfl sc_27 rfl ?_
              refine WO.nilCheck rfl rfl rfl rfl ?_
              refine WO.fieldAddr 9 rfl rfl rfl rfl fl_74_9 ?_
              refine WO.loadY 2 rfl rfl rfl rfl sc_3 rfl rfl ?_
              refine WO.bin rfl rfl rfl rfl rfl rfl ?_
              refine WO.move rfl rfl rfl rfl ?_
              refine WO.split (t := 90) rfl (fun hg161 => ?_) (fun hg161 => ?_)
              · have hr := cond_t hg161 hr
                refine WO.fieldAddr 1 rfl rfl rfl rfl fl_46_1 ?_
                refine WO.loadY 1 rfl rfl rfl rfl sc_3 rfl rfl ?_
                refine WO.loadP 0 (hc16.mono (Mem.le_pick (Mem.add (Mem.add F χ) [(b4, row [.pointer (some ⟨b_0, 0, none⟩)] 27)]) 2 [0] (by decide))) rfl rfl rfl rfl rfl sc_27 rfl ?_
                refine WO.nilCheck rfl rfl rfl rfl ?_
                refine WO.fieldAddr 9 rfl rfl rfl rfl fl_74_9 ?_
                refine WO.loadY 2 rfl rfl rfl rfl sc_3 rfl rfl ?_
                refine WO.loadP 0 (hc16.mono (Mem.le_pick (Mem.add (Mem.add F χ) [(b4, row [.pointer (some ⟨b_0, 0, none⟩)] 27)]) 2 [0] (by decide))) rfl rfl rfl rfl rfl sc_27 rfl ?_
                refine WO.nilCheck rfl rfl rfl rfl ?_
                refine WO.fieldAddr 0 rfl rfl rfl rfl fl_74_0 ?_
                refine WO.loadY 2 rfl rfl rfl rfl sc_3 rfl rfl ?_
                refine WO.bin rfl rfl rfl rfl rfl rfl ?_
                refine WO.bin rfl rfl rfl rfl rfl rfl ?_
                refine WO.pickT rfl rfl rfl rfl rfl ?_
                refine WO.move rfl rfl rfl rfl ?_
                refine WO.split (t := 104) rfl (fun hg162 => ?_) (fun hg162 => ?_)
                · have hr := cond_t hg162 hr
                  refine WO.move rfl rfl rfl rfl ?_
                  refine WO.un rfl rfl rfl rfl rfl ?_
                  refine WO.pickT rfl rfl rfl rfl rfl ?_
                  refine WO.done ?_
                  refine At.seq_at ?_
                  exact fun a w hc hs => ⟨(!(Option.isSome (mget p0.early p1.Seq))), hr, (hc.keep (hc.keep (hc.keep hc.nil (t := 107) rfl) (t := 3) rfl) (t := 2) rfl), hs⟩
                · have hr := cond_f hg162 hr
                  refine WO.skip rfl rfl rfl rfl ?_
                  refine WO.skip rfl rfl rfl rfl ?_
                  refine WO.pickF rfl rfl rfl rfl rfl ?_
                  refine WO.done ?_
                  refine At.seq_at ?_
                  exact fun a w hc hs => ⟨false, hr, (hc.keep (hc.keep (hc.keep hc.nil (t := 107) rfl) (t := 3) rfl) (t := 2) rfl), hs⟩
              · have hr := cond_f hg161 hr
                refine WO.skip rfl rfl rfl rfl ?_
                refine WO.skip rfl rfl rfl rfl ?_
                refine WO.skip rfl rfl rfl rfl ?_
                refine WO.skip rfl rfl rfl rfl ?_
                refine WO.skip rfl rfl rfl rfl ?_
                refine WO.skip rfl rfl rfl rfl ?_
                refine WO.skip rfl rfl rfl rfl ?_
                refine WO.skip rfl rfl rfl rfl ?_
                refine WO.skip rfl rfl rfl rfl ?_
                refine WO.skip rfl rfl rfl rfl ?_
                refine WO.skip rfl rfl rfl rfl ?_
                refine WO.skip rfl rfl rfl rfl ?_
                refine WO.pickF rfl rfl rfl rfl rfl ?_
                refine WO.move rfl rfl rfl rfl ?_
                refine WO.skip rfl rfl rfl rfl ?_
                refine WO.skip rfl rfl rfl rfl ?_
                refine WO.pickF rfl rfl rfl rfl rfl ?_
                refine WO.done ?_
                refine At.seq_at ?_
                exact fun a w hc hs => ⟨false, hr, (hc.keep (hc.keep (hc.keep hc.nil (t := 107) rfl) (t := 3) rfl) (t := 2) rfl), hs⟩
            · rintro a w ⟨v148, hr, hc, hs⟩
              refine WC.use hc hs ?_
              clear hc hs
              unfold link_Link_Hear_vvvvvvvvovmv_k5 at hr
              refine WC.cond rfl (fun hb149 => ?_) (fun hb149 => ?_)
              · have hr := cond_t hb149 hr
                refine WC.drawA (Sat (Mem.add (Mem.add F χ) [(b4, row [.pointer (some ⟨b_0, 0, none⟩)] 27)]) ([(b6, row [.int .i64 p1.Epoch, .int .i64 p1.Seq, .int .i64 p1.Ack, .slice a1 p1.Body.length c2] 46)] :: [(b_0, row [.int .i64 p0.window, .int .i64 p0.span, .int .i64 p0.room, .int .i64 p0.epoch, .int .i64 p0.now, .int .i64 p0.next, .int .i64 (if p1.Ack > p0.acked then p1.Ack else p0.acked), .int .i64 p0.sent, .slice a19 x17.length c20, .int .i64 p0.got, .map (some bm_0_10), .bool true] 74)] :: Φ)) (fun _ h => (h.arrange 2 4 [0, 1] [3, 4] (by decide))) mixed rfl ?_
                refine WA.lin (fuel := 3) [(0, true), (1, true), (2, true), (4, true), (5, true), (6, true), (7, true)] (by kernel_rfl) (by kernel_rfl) ?_
                refine WO.loadP 0 (hc16.mono (Mem.le_pick (Mem.add (Mem.add F χ) [(b4, row [.pointer (some ⟨b_0, 0, none⟩)] 27)]) 2 [0] (by decide))) rfl rfl rfl rfl rfl sc_27 rfl ?_
                refine WO.nilCheck rfl rfl rfl rfl ?_
                refine WO.fieldAddr 10 rfl rfl rfl rfl fl_74_10 ?_
                refine WO.fieldAddr 1 rfl rfl rfl rfl fl_46_1 ?_
                refine WO.loadY 0 rfl rfl rfl rfl sc_3 rfl rfl ?_
                refine WO.fieldAddr 3 rfl rfl rfl rfl fl_46_3 ?_
                refine WO.loadY 0 rfl rfl rfl rfl sc_38 rfl rfl ?_
                refine WO.done ?_
                refine WA.of ?_
                refine WA.two (fuel := 2) 3 8 (by kernel_rfl) ?_ ?_
                · refine WO.load 2 rfl rfl rfl rfl sc_71 rfl rfl ?_
                  refine WO.done ?_
                  refine WA.of ?_
                  refine WA.lin (fuel := 0) [(8, false), (9, false)] (by kernel_rfl) (by kernel_rfl) ?_
                  obtain ⟨x150, hx151, hr⟩ := bind_some' hr
                  refine WO.call rfl rfl rfl rfl rfl cl_28 (CallsRet.lay 2 4 1 [1] [0, 2, 3, 4, 5] (by decide) (Mem.add F (List.flatten [χ])) ([(b4, row [.pointer (some ⟨b_0, 0, none⟩)] 27)] :: p22 :: [(b6, row [.int .i64 p1.Epoch, .int .i64 p1.Seq, .int .i64 p1.Ack, .slice a1 p1.Body.length c2] 46)] :: [(b_0, row [.int .i64 p0.window, .int .i64 p0.span, .int .i64 p0.room, .int .i64 p0.epoch, .int .i64 p0.now, .int .i64 p0.next, .int .i64 (if p1.Ack > p0.acked then p1.Ack else p0.acked), .int .i64 p0.sent, .slice a19 x17.length c20, .int .i64 p0.got, .map (some bm_0_10), .bool true] 74)] :: ψ_0_10 :: Φ) rfl rfl (bytes_Clone_ok (F := F) (χ := (List.flatten [χ])) (h3.mono (mono_int _) (Mem.le_gather (Mem.add F χ) 1)) hx151 ([(b4, row [.pointer (some ⟨b_0, 0, none⟩)] 27)] :: p22 :: [(b6, row [.int .i64 p1.Epoch, .int .i64 p1.Seq, .int .i64 p1.Ack, .slice a1 p1.Body.length c2] 46)] :: [(b_0, row [.int .i64 p0.window, .int .i64 p0.span, .int .i64 p0.room, .int .i64 p0.epoch, .int .i64 p0.now, .int .i64 p0.next, .int .i64 (if p1.Ack > p0.acked then p1.Ack else p0.acked), .int .i64 p0.sent, .slice a19 x17.length c20, .int .i64 p0.got, .map (some bm_0_10), .bool true] 74)] :: ψ_0_10 :: Φ))) ?_
                  rintro _ _ ⟨a152, c153, p155, rfl, hs157, h154⟩
                  have hs157 := Sat.unlay F [χ] hs157
                  have hs157 := (hs157.arrange 1 6 [2, 0] [1, 3, 4, 5, 6] (by decide))
                  refine ⟨(Mem.add (Mem.add F χ) [(b4, row [.pointer (some ⟨b_0, 0, none⟩)] 27)]), (p155 :: p22 :: [(b6, row [.int .i64 p1.Epoch, .int .i64 p1.Seq, .int .i64 p1.Ack, .slice a1 p1.Body.length c2] 46)] :: [(b_0, row [.int .i64 p0.window, .int .i64 p0.span, .int .i64 p0.room, .int .i64 p0.epoch, .int .i64 p0.now, .int .i64 p0.next, .int .i64 (if p1.Ack > p0.acked then p1.Ack else p0.acked), .int .i64 p0.sent, .slice a19 x17.length c20, .int .i64 p0.got, .map (some bm_0_10), .bool true] 74)] :: ψ_0_10 :: Φ), hs157, (hs157.arrange 2 5 [0, 1] [4, 5] (by decide)), ?_⟩
                  refine WO.freeze 0 rfl ?_
                  have hz158 := (OwnL.re (G := F) (const_int _) h154).rd (mono_int _)
                  refine WO.mapUpdate (q := p1.Seq) (u := x150) 3 key_3 (hm_0_10.mono (monoV1 (mono_sl (mono_int _))) (Mem.le_pick (Mem.add F p155) 1 [] (by decide))) rfl ⟨rfl, _, _, rfl, hz158⟩ rfl rfl rfl rfl rfl Try.underlying71 (fun _ _ h => (h.arrange 3 4 [1, 2] [4, 5] (by decide))) (fun p159 hm160 => ?_)
                  refine WO.done ?_
                  refine WA.of ?_
                  refine WA.done (by kernel_rfl) ?_
                  refine At.seq_at ?_
                  exact fun a w hc hs => ⟨(mput p0.early p1.Seq x150), bm_0_10, p159, (List.flatten [p155]), hr, (hc.keep hc.nil (t := 2) rfl), ((hs.arrange 3 4 [0, 1, 2] [6, 3, 4, 5] (by decide)).gather 1), (hm160.mono (monoV1 (mono_sl (mono_int _))) (Mem.le_gather (Mem.add F p155) 1))⟩
                · obtain ⟨x150, hx151, hr⟩ := bind_some' hr
                  refine WO.call rfl rfl rfl rfl rfl cl_28 (CallsRet.lay 2 4 1 [1] [0, 2, 3, 4, 5] (by decide) (Mem.add F (List.flatten [χ])) ([(b4, row [.pointer (some ⟨b_0, 0, none⟩)] 27)] :: p22 :: [(b6, row [.int .i64 p1.Epoch, .int .i64 p1.Seq, .int .i64 p1.Ack, .slice a1 p1.Body.length c2] 46)] :: [(b_0, row [.int .i64 p0.window, .int .i64 p0.span, .int .i64 p0.room, .int .i64 p0.epoch, .int .i64 p0.now, .int .i64 p0.next, .int .i64 (if p1.Ack > p0.acked then p1.Ack else p0.acked), .int .i64 p0.sent, .slice a19 x17.length c20, .int .i64 p0.got, .map (some bm_0_10), .bool true] 74)] :: ψ_0_10 :: Φ) rfl rfl (bytes_Clone_ok (F := F) (χ := (List.flatten [χ])) (h3.mono (mono_int _) (Mem.le_gather (Mem.add F χ) 1)) hx151 ([(b4, row [.pointer (some ⟨b_0, 0, none⟩)] 27)] :: p22 :: [(b6, row [.int .i64 p1.Epoch, .int .i64 p1.Seq, .int .i64 p1.Ack, .slice a1 p1.Body.length c2] 46)] :: [(b_0, row [.int .i64 p0.window, .int .i64 p0.span, .int .i64 p0.room, .int .i64 p0.epoch, .int .i64 p0.now, .int .i64 p0.next, .int .i64 (if p1.Ack > p0.acked then p1.Ack else p0.acked), .int .i64 p0.sent, .slice a19 x17.length c20, .int .i64 p0.got, .map (some bm_0_10), .bool true] 74)] :: ψ_0_10 :: Φ))) ?_
                  rintro _ _ ⟨a152, c153, p155, rfl, hs157, h154⟩
                  have hs157 := Sat.unlay F [χ] hs157
                  have hs157 := (hs157.arrange 1 6 [2, 0] [1, 3, 4, 5, 6] (by decide))
                  refine ⟨(Mem.add (Mem.add F χ) [(b4, row [.pointer (some ⟨b_0, 0, none⟩)] 27)]), (p155 :: p22 :: [(b6, row [.int .i64 p1.Epoch, .int .i64 p1.Seq, .int .i64 p1.Ack, .slice a1 p1.Body.length c2] 46)] :: [(b_0, row [.int .i64 p0.window, .int .i64 p0.span, .int .i64 p0.room, .int .i64 p0.epoch, .int .i64 p0.now, .int .i64 p0.next, .int .i64 (if p1.Ack > p0.acked then p1.Ack else p0.acked), .int .i64 p0.sent, .slice a19 x17.length c20, .int .i64 p0.got, .map (some bm_0_10), .bool true] 74)] :: ψ_0_10 :: Φ), hs157, (hs157.arrange 2 5 [0, 1] [4, 5] (by decide)), ?_⟩
                  refine WO.done ?_
                  refine WA.of ?_
                  refine WA.lin (fuel := 0) [(3, false), (9, false)] (by kernel_rfl) (by kernel_rfl) ?_
                  refine WO.load 3 rfl rfl rfl rfl sc_71 rfl rfl ?_
                  refine WO.freeze 0 rfl ?_
                  have hz158 := (OwnL.re (G := F) (const_int _) h154).rd (mono_int _)
                  refine WO.mapUpdate (q := p1.Seq) (u := x150) 3 key_3 (hm_0_10.mono (monoV1 (mono_sl (mono_int _))) (Mem.le_pick (Mem.add F p155) 1 [] (by decide))) rfl ⟨rfl, _, _, rfl, hz158⟩ rfl rfl rfl rfl rfl Try.underlying71 (fun _ _ h => (h.arrange 3 4 [1, 2] [4, 5] (by decide))) (fun p159 hm160 => ?_)
                  refine WO.done ?_
                  refine WA.of ?_
                  refine WA.done (by kernel_rfl) ?_
                  refine At.seq_at ?_
                  exact fun a w hc hs => ⟨(mput p0.early p1.Seq x150), bm_0_10, p159, (List.flatten [p155]), hr, (hc.keep hc.nil (t := 2) rfl), ((hs.arrange 3 4 [0, 1, 2] [6, 3, 4, 5] (by decide)).gather 1), (hm160.mono (monoV1 (mono_sl (mono_int _))) (Mem.le_gather (Mem.add F p155) 1))⟩
              · have hr := cond_f hb149 hr
                refine WC.skip ?_
                refine At.seq_at ?_
                exact fun a w hc hs => ⟨p0.early, bm_0_10, ψ_0_10, (List.flatten []), hr, (hc.keep hc.nil (t := 2) rfl), ((hs.arrange 2 4 [0, 1] [5, 2, 3, 4] (by decide)).gather 0), (hm_0_10.mono (monoV1 (mono_sl (mono_int _))) (Mem.le_gather F 0))⟩
          · rintro a w ⟨v29, b30, p31, w28, hr, hc, hs, hm32⟩
            refine WC.use hc hs ?_
            clear hc hs
            unfold link_Link_Hear_vvvvvvvvovmv_k2 at hr
            refine WC.then ?_
            refine WC.region [(0, true)] rfl ?_
            refine WO.assign rfl rfl rfl rfl ?_
            refine WO.done ?_
            refine At.seq_wc ?_
            obtain ⟨xl4, hl4, hk4⟩ := bind_some' hr
            refine WC.weaken (fun _ _ => False) ?_ (fun _ _ h => h.elim)
            refine WC.block ?_
            refine WC.loop (fun ⟨v87, v93⟩ a w => ∃ (a88 : Option Addr) (c89 : Nat) (p90 : List Chunk) (a94 : Option Addr) (c95 : Nat) (p96 : List Chunk) (b99 : Nat) (p100 : List Chunk), Ctx 152 [(2, .pointer (some ⟨b4, 0, none⟩)), (8, .slice a88 v87.length c89)] a ∧ Sat (Mem.add (Mem.add (Mem.add F χ) [(b4, row [.pointer (some ⟨b_0, 0, none⟩)] 27)]) w28) (p90 :: p96 :: p100 :: [(b6, row [.int .i64 p1.Epoch, .int .i64 p1.Seq, .int .i64 p1.Ack, .slice a1 p1.Body.length c2] 46)] :: [(b_0, row [.int .i64 v93.window, .int .i64 v93.span, .int .i64 v93.room, .int .i64 v93.epoch, .int .i64 v93.now, .int .i64 v93.next, .int .i64 v93.acked, .int .i64 v93.sent, .slice a94 v93.out.length c95, .int .i64 v93.got, .map (some b99), .bool v93.owes] 74)] :: Φ) w ∧ OwnL 1 (RSl 1 (RInt .u8)) (Mem.add F w28) 38 a88 c89 v87 p90 ∧ OwnL 3 R_link_body F 79 a94 c95 v93.out p96 ∧ OwnM (fun x : Int => Value.int .i64 x) (RV1 (RSl 1 (RInt .u8))) (Mem.add F w28) b99 v93.early p100) hl4 ?_ ?_
            · refine At.empty ?_
              have ho139 : OwnL 1 (RSl 1 (RInt .u8)) F 38 none 0 ([] : List (List Int)) [] := OwnL.nil
              exact fun a w hc hs => ⟨none, 0, [], a19, c20, p22, b30, p31, (hc.keep (hc.keep hc.nil (t := 8) rfl) (t := 2) rfl), (hs.arrange 3 5 [0, 1, 2] [3, 5, 4, 6, 7] (by decide)), (ho139.mono (mono_sl (mono_int _)) (Mem.le_pick (Mem.add F w28) 1 [] (by decide))), h21, hm32⟩
            · rintro ⟨v87, v93⟩ r4 hr a w ⟨a88, c89, p90, a94, c95, p96, b99, p100, hc, hs, ho91, ho97, hm101⟩
              refine WC.use hc hs ?_
              clear hc hs
              (try dsimp only at hr)
              unfold link_Link_Hear_vvvvvvvvovmv_b3 at hr
              refine WC.block ?_
              refine WC.then ?_
              refine WC.draw (Sat (Mem.add (Mem.add (Mem.add F χ) [(b4, row [.pointer (some ⟨b_0, 0, none⟩)] 27)]) w28) (p90 :: p96 :: p100 :: [(b6, row [.int .i64 p1.Epoch, .int .i64 p1.Seq, .int .i64 p1.Ack, .slice a1 p1.Body.length c2] 46)] :: [(b_0, row [.int .i64 v93.window, .int .i64 v93.span, .int .i64 v93.room, .int .i64 v93.epoch, .int .i64 v93.now, .int .i64 v93.next, .int .i64 v93.acked, .int .i64 v93.sent, .slice a94 v93.out.length c95, .int .i64 v93.got, .map (some b99), .bool v93.owes] 74)] :: Φ)) (fun _ h => (h.arrange 3 5 [0, 1, 2] [3, 4, 5, 6, 7] (by decide))) [(0, true), (1, true), (2, true), (3, true), (4, true), (5, true), (6, true), (7, true), (8, true), (9, true), (10, true), (11, true), (12, true), (13, true), (14, true)] mixed (by kernel_rfl) rfl (by kernel_rfl) ?_
              refine WO.loadP 0 (hc16.mono (Mem.le_pick (Mem.add (Mem.add (Mem.add F χ) [(b4, row [.pointer (some ⟨b_0, 0, none⟩)] 27)]) w28) 3 [1] (by decide))) rfl rfl rfl rfl rfl sc_27 rfl ?_
              refine WO.nilCheck rfl rfl rfl rfl ?_
              refine WO.fieldAddr 10 rfl rfl rfl rfl fl_74_10 ?_
              refine WO.loadY 4 rfl rfl rfl rfl sc_71 rfl rfl ?_
              refine WO.loadP 0 (hc16.mono (Mem.le_pick (Mem.add (Mem.add (Mem.add F χ) [(b4, row [.pointer (some ⟨b_0, 0, none⟩)] 27)]) w28) 3 [1] (by decide))) rfl rfl rfl rfl rfl sc_27 rfl ?_
              refine WO.nilCheck rfl rfl rfl rfl ?_
              refine WO.fieldAddr 9 rfl rfl rfl rfl fl_74_9 ?_
              refine WO.loadY 4 rfl rfl rfl rfl sc_3 rfl rfl ?_
              refine WO.bin rfl rfl rfl rfl rfl rfl ?_
              obtain ⟨x120, hx121, hr⟩ := bind_some' hr
              have hx121 := Option.some.inj hx121
              refine WO.lookupY (q := (IntKind.wrap .i64 (v93.got + 1))) (z' := ([] : List Int)) true 2 key_3 hm101 rfl zb_38 ⟨rfl, _, _, rfl, RdL.nil⟩ rfl rfl rfl rfl rfl Try.underlying71 (fun v122 hv123 => ?_)
              rw [hx121] at hv123
              obtain ⟨_, a124, c125, hv123, h126⟩ := hv123
              obtain rfl := (List.cons.inj hv123).1
              refine WO.move rfl rfl rfl rfl ?_
              refine WO.extract rfl rfl rfl rfl rfl ?_
              refine WO.extract rfl rfl rfl rfl rfl ?_
              refine WO.assign rfl rfl rfl rfl ?_
              refine WO.assign rfl rfl rfl rfl ?_
              refine WO.done ?_
              refine At.seq_wc ?_
              refine WC.then ?_
              refine WC.then ?_
              refine WC.region [(0, true), (1, true)] rfl ?_
              refine WO.move rfl rfl rfl rfl ?_
              refine WO.un rfl rfl rfl rfl rfl ?_
              refine WO.done ?_
              refine At.seq_wc ?_
              refine WC.cond rfl (fun hb127 => ?_) (fun hb127 => ?_)
              · have hr := cond_t hb127 hr
                refine WC.then ?_
                refine WC.region [(0, true), (1, true), (2, true)] rfl ?_
                refine WO.move rfl rfl rfl rfl ?_
                refine WO.assign rfl rfl rfl rfl ?_
                refine WO.assign rfl rfl rfl rfl ?_
                refine WO.done ?_
                refine At.seq_wc ?_
                refine WC.ret ?_
                refine At.seq_ret ?_
                refine At.block_ret ?_
                refine At.round_ret hr (fun hy => ?_)
                subst hy
                have hr := hk4
                refine At.block_ret ?_
                refine At.seq_ret ?_
                obtain rfl := Option.some.inj hr
                exact At.ret (fun a w hc hs => (resVs_cons (hc.res rfl) (resVs_cons (hc.res rfl) resVs_nil))) (fun w hs => ⟨(List.flatten [w28]), _, _, _, _, _, _, _, _, rfl, ((hs.arrange 3 5 [0, 2] [3, 7, 4, 5] (by decide)).gather 1), (ho91.mono (mono_sl (mono_int _)) (Mem.le_gather (Mem.add F w28) 1)), (ho97.mono mono_link_body (Mem.le.trans (Mem.le_pick (Mem.add F w28) 1 [] (by decide)) (Mem.le_gather (Mem.add F w28) 1))), (hm101.mono (monoV1 (mono_sl (mono_int _))) (Mem.le_gather (Mem.add F w28) 1))⟩)
              · have hr := cond_f hb127 hr
                refine WC.skip ?_
                refine At.seq_wc ?_
                refine WC.then ?_
                refine WC.region [(0, false), (1, true), (2, true), (3, false), (4, true), (5, true), (6, true), (7, false)] rfl ?_
                refine WO.loadPn 0 (hc16.mono (Mem.le_pick (Mem.add (Mem.add (Mem.add F χ) [(b4, row [.pointer (some ⟨b_0, 0, none⟩)] 27)]) w28) 3 [1] (by decide))) rfl rfl rfl rfl rfl sc_27 rfl ?_
                refine WO.nilCheck rfl rfl rfl rfl ?_
                refine WO.fieldAddr 9 rfl rfl rfl rfl fl_74_9 ?_
                refine WO.load 4 rfl rfl rfl rfl sc_3 rfl rfl ?_
                refine WO.bin rfl rfl rfl rfl rfl rfl ?_
                refine WO.nilCheck rfl rfl rfl rfl ?_
                refine WO.fieldAddr 9 rfl rfl rfl rfl fl_74_9 ?_
                refine WO.store 4 rfl rfl rfl rfl sz_3 rfl rfl rfl (fun _ _ => trivial) ?_
                refine WO.done ?_
                refine At.seq_wc ?_
                refine WC.then ?_
                refine WC.drawA (Sat (Mem.add (Mem.add (Mem.add F χ) [(b4, row [.pointer (some ⟨b_0, 0, none⟩)] 27)]) w28) (p90 :: [(b6, row [.int .i64 p1.Epoch, .int .i64 p1.Seq, .int .i64 p1.Ack, .slice a1 p1.Body.length c2] 46)] :: [(b_0, row [.int .i64 v93.window, .int .i64 v93.span, .int .i64 v93.room, .int .i64 v93.epoch, .int .i64 v93.now, .int .i64 v93.next, .int .i64 v93.acked, .int .i64 v93.sent, .slice a94 v93.out.length c95, .int .i64 (IntKind.wrap .i64 (v93.got + 1)), .map (some b99), .bool v93.owes] 74)] :: Φ)) (fun _ h => (h.arrange 3 5 [0, 1, 2] [3, 6, 7] (by decide))) mixed rfl ?_
                refine WA.lin (fuel := 3) [(0, true), (1, true), (2, true), (4, true), (5, true), (6, true)] (by kernel_rfl) (by kernel_rfl) ?_
                refine WO.loadP 0 (hc16.mono (Mem.le_pick (Mem.add (Mem.add (Mem.add F χ) [(b4, row [.pointer (some ⟨b_0, 0, none⟩)] 27)]) w28) 3 [1] (by decide))) rfl rfl rfl rfl rfl sc_27 rfl ?_
                refine WO.nilCheck rfl rfl rfl rfl ?_
                refine WO.fieldAddr 10 rfl rfl rfl rfl fl_74_10 ?_
                refine WO.loadP 0 (hc16.mono (Mem.le_pick (Mem.add (Mem.add (Mem.add F χ) [(b4, row [.pointer (some ⟨b_0, 0, none⟩)] 27)]) w28) 3 [1] (by decide))) rfl rfl rfl rfl rfl sc_27 rfl ?_
                refine WO.nilCheck rfl rfl rfl rfl ?_
                refine WO.fieldAddr 9 rfl rfl rfl rfl fl_74_9 ?_
                refine WO.done ?_
                refine WA.of ?_
                refine WA.two (fuel := 2) 3 7 (by kernel_rfl) ?_ ?_
                · refine WO.load 4 rfl rfl rfl rfl sc_71 rfl rfl ?_
                  refine WO.done ?_
                  refine WA.of ?_
                  refine WA.lin (fuel := 0) [(7, false), (8, false)] (by kernel_rfl) (by kernel_rfl) ?_
                  refine WO.load 4 rfl rfl rfl rfl sc_3 rfl rfl ?_
                  refine WO.delete0 (q := (IntKind.wrap .i64 (v93.got + 1))) 2 key_3 hm101 rfl rfl rfl rfl rfl Try.underlying71 (fun _ _ h => (h.arrange 3 5 [0, 1, 2] [3, 6, 7] (by decide))) (fun p128 hm129 => ?_)
                  refine WO.done ?_
                  refine WA.of ?_
                  refine WA.done (by kernel_rfl) ?_
                  refine At.seq_wc ?_
                  refine WC.region [(0, true), (1, true), (2, false), (3, false), (4, true)] rfl ?_
                  refine WO.move rfl rfl rfl rfl ?_
                  refine WO.move rfl rfl rfl rfl ?_
                  refine WO.buildSl (e := 38) (vs := [.tmp 149]) [0] [.slice a124 x120.length c125] rfl rfl rfl rfl rfl (fun _ => by kernel_rfl) (fun _ _ _ => trivial) (fun b130 => ?_)
                  obtain ⟨x132, hx133, hr⟩ := bind_some' hr
                  refine WO.append 1 ho91 rfl (SrcL.ofRow 0 Try.underlying55 [[.slice a124 x120.length c125]] rfl rfl rfl (Rs.cons (x := x120) (cs := [.slice a124 x120.length c125]) rfl ⟨_, _, rfl, h126⟩ rfl Rs.nil)) hx133 rfl rfl rfl rfl rfl rfl Try.underlying55 el_38 (fun _ _ _ => trivial) (fun a134 c135 p136 ho137 => ?_)
                  refine WO.assign rfl rfl rfl rfl ?_
                  refine WO.done ?_
                  refine At.block_normal ?_
                  refine At.round_next hr ?_
                  exact fun a w hc hs => ⟨a134, c135, p136, a94, c95, p96, b99, p128, (hc.keep (hc.keep hc.nil (t := 8) rfl) (t := 2) rfl), (hs.arrange 3 6 [0, 1, 2] [4, 5, 6, 7, 8] (by decide)), ho137, ho97, hm129⟩
                · refine WO.load 4 rfl rfl rfl rfl sc_3 rfl rfl ?_
                  refine WO.done ?_
                  refine WA.of ?_
                  refine WA.lin (fuel := 0) [(3, false), (8, false)] (by kernel_rfl) (by kernel_rfl) ?_
                  refine WO.load 4 rfl rfl rfl rfl sc_71 rfl rfl ?_
                  refine WO.delete0 (q := (IntKind.wrap .i64 (v93.got + 1))) 2 key_3 hm101 rfl rfl rfl rfl rfl Try.underlying71 (fun _ _ h => (h.arrange 3 5 [0, 1, 2] [3, 6, 7] (by decide))) (fun p128 hm129 => ?_)
                  refine WO.done ?_
                  refine WA.of ?_
                  refine WA.done (by kernel_rfl) ?_
                  refine At.seq_wc ?_
                  refine WC.region [(0, true), (1, true), (2, false), (3, false), (4, true)] rfl ?_
                  refine WO.move rfl rfl rfl rfl ?_
                  refine WO.move rfl rfl rfl rfl ?_
                  refine WO.buildSl (e := 38) (vs := [.tmp 149]) [0] [.slice a124 x120.length c125] rfl rfl rfl rfl rfl (fun _ => by kernel_rfl) (fun _ _ _ => trivial) (fun b130 => ?_)
                  obtain ⟨x132, hx133, hr⟩ := bind_some' hr
                  refine WO.append 1 ho91 rfl (SrcL.ofRow 0 Try.underlying55 [[.slice a124 x120.length c125]] rfl rfl rfl (Rs.cons (x := x120) (cs := [.slice a124 x120.length c125]) rfl ⟨_, _, rfl, h126⟩ rfl Rs.nil)) hx133 rfl rfl rfl rfl rfl rfl Try.underlying55 el_38 (fun _ _ _ => trivial) (fun a134 c135 p136 ho137 => ?_)
                  refine WO.assign rfl rfl rfl rfl ?_
                  refine WO.done ?_
                  refine At.block_normal ?_
                  refine At.round_next hr ?_
                  exact fun a w hc hs => ⟨a134, c135, p136, a94, c95, p96, b99, p128, (hc.keep (hc.keep hc.nil (t := 8) rfl) (t := 2) rfl), (hs.arrange 3 6 [0, 1, 2] [4, 5, 6, 7, 8] (by decide)), ho137, ho97, hm129⟩
/-! peloton/pelotonlaw16.awake -/
def law16_awake_k1  : Option Bool := some false
def law16_awake_k3 (v142 : Bool) : Option Bool := some v142
def law16_awake_k2 (v21 : Bool) (v22 : S_link_Link) : Option Bool := cond v21 (some false) ((link_Link_Tick_vvvvvvvvovmv v22).bind fun x33 => (link_Link_Tick_vvvvvvvvovmv x33.2).bind fun x51 => (link_Link_Tick_vvvvvvvvovmv x51.2).bind fun x69 => (link_Link_Tick_vvvvvvvvovmv x69.2).bind fun x87 => (link_Link_Hear_vvvvvvvvovmv x87.2 (⟨0, 0, 1, []⟩ : S_api_Seg)).bind fun x105 => (link_Link_Tick_vvvvvvvvovmv x105.2.2).bind fun x123 => cond ((x33.1.length : Int) == 2) (cond ((IntKind.wrap .i64 ((x51.1.length : Int) + (x69.1.length : Int))) == 0) (cond ((x87.1.length : Int) == 2) ((getI x87.1 1).bind fun x146 => cond (x146.Seq == 2) ((getI x87.1 1).bind fun x157 => cond ((strOfNums x157.Body) == (ByteArray.mk #[98])) (cond (x105.2.1 == 0) (cond ((x123.1.length : Int) == 1) ((getI x123.1 0).bind fun x170 => law16_awake_k3 (x170.Seq == 3)) (law16_awake_k3 false)) (law16_awake_k3 false)) (law16_awake_k3 false)) (law16_awake_k3 false)) (law16_awake_k3 false)) (law16_awake_k3 false)) (law16_awake_k3 false))
def law16_awake  : Option Bool := (link_New 2 3 9).bind fun x1 => Option.elim x1.1 (law16_awake_k1 ) (fun o3 => cond (x1.2 != 0) (law16_awake_k2 true o3) ((link_Link_Send_vvvvvvvvovmv o3 [[97], [98], [99]]).bind fun x200 => law16_awake_k2 (x200.1 != 0) x200.2))
theorem law16_awake_ok {F : Mem}  {r : Bool} (hr : law16_awake  = some r) (Φ : List (List Chunk)) :
    CallsRet Try.prog 5 (List.toArray []) F Φ (fun v w => v = .bool r ∧ Sat F (Φ) w) := by
  refine CallsRet.enter (rs := [.tmp 0]) Try.func5 rfl rfl rfl rfl ?_
  unfold law16_awake at hr
  refine WC.then ?_
  refine WC.region [(0, true)] rfl ?_
  refine WO.assign rfl rfl rfl rfl ?_
  refine WO.done ?_
  refine At.seq_wc ?_
  refine WC.then ?_
  refine WC.region [(0, false), (1, true), (2, true), (3, true), (4, true), (5, true)] rfl ?_
  obtain ⟨x1, hx2, hr⟩ := bind_some' hr
  refine WO.call rfl rfl rfl rfl rfl cl_6 (link_New_ok (F := F) hx2 (Φ)) ?_
  rintro _ _ (⟨hn4, rfl, hs5⟩ | ⟨o3, b8, a9, c10, p12, b14, p15, hn7, rfl, hs19, h11, hm17⟩)
  · have hr := elim_none hn4 hr
    refine ⟨F, (Φ), hs5, trivial, ?_⟩
    refine WO.move rfl rfl rfl rfl ?_
    refine WO.extract rfl rfl rfl rfl rfl ?_
    refine WO.extract rfl rfl rfl rfl rfl ?_
    refine WO.assign rfl rfl rfl rfl ?_
    refine WO.assign rfl rfl rfl rfl ?_
    refine WO.done ?_
    refine At.seq_wc ?_
    refine WC.then ?_
    refine WC.seq (fun a w => law16_awake_k1  = some r ∧ Ctx 95 [(1, .pointer none), (31, .bool true)] a ∧ Sat F Φ w) ?_ ?_
    · refine WC.region [(0, true), (1, true), (2, true), (3, true), (4, true), (5, true), (6, true), (7, true), (8, false), (9, false), (10, false), (11, false), (12, false), (13, false), (14, false), (15, false), (16, true), (17, true)] rfl ?_
      refine WO.move rfl rfl rfl rfl ?_
      refine WO.eqNil rfl rfl rfl rfl rfl Try.underlying27 ?_
      refine WO.move rfl rfl rfl rfl ?_
      refine WO.skip rfl rfl rfl rfl ?_
      refine WO.skip rfl rfl rfl rfl ?_
      refine WO.pickT rfl rfl rfl rfl rfl ?_
      refine WO.move rfl rfl rfl rfl ?_
      refine WO.skip rfl rfl rfl rfl ?_
      refine WO.skipF rfl rfl rfl rfl ?_
      refine WO.skipF rfl rfl rfl rfl ?_
      refine WO.skipF rfl rfl rfl rfl ?_
      refine WO.skipF rfl rfl rfl rfl ?_
      refine WO.skipF rfl rfl rfl rfl ?_
      refine WO.skipF rfl rfl rfl rfl ?_
      refine WO.skipF rfl rfl rfl rfl ?_
      refine WO.skipF rfl rfl rfl rfl ?_
      refine WO.skip rfl rfl rfl rfl ?_
      refine WO.pickT rfl rfl rfl rfl rfl ?_
      refine WO.done ?_
      refine At.seq_at ?_
      exact fun a w hc hs => ⟨hr, (hc.keep (hc.keep hc.nil (t := 31) rfl) (t := 1) rfl), hs⟩
    · rintro a w ⟨hr, hc, hs⟩
      refine WC.use hc hs ?_
      clear hc hs
      unfold law16_awake_k1 at hr
      refine WC.condT rfl ?_
      refine WC.then ?_
      refine WC.region [(0, true)] rfl ?_
      refine WO.assign rfl rfl rfl rfl ?_
      refine WO.done ?_
      refine At.seq_wc ?_
      refine WC.ret ?_
      refine At.seq_ret ?_
      obtain rfl := Option.some.inj hr
      exact At.ret (fun a w hc hs => (resVs_cons (hc.res rfl) resVs_nil)) (fun w hs => ⟨rfl, hs⟩)
  · have hr := elim_some hn7 hr
    refine ⟨F, ([(b8, row [.int .i64 o3.window, .int .i64 o3.span, .int .i64 o3.room, .int .i64 o3.epoch, .int .i64 o3.now, .int .i64 o3.next, .int .i64 o3.acked, .int .i64 o3.sent, .slice a9 o3.out.length c10, .int .i64 o3.got, .map (some b14), .bool o3.owes] 74)] :: p12 :: p15 :: Φ), hs19, trivial, ?_⟩
    refine WO.move rfl rfl rfl rfl ?_
    refine WO.extract rfl rfl rfl rfl rfl ?_
    refine WO.extract rfl rfl rfl rfl rfl ?_
    refine WO.assign rfl rfl rfl rfl ?_
    refine WO.assign rfl rfl rfl rfl ?_
    refine WO.done ?_
    refine At.seq_wc ?_
    refine WC.then ?_
    refine WC.seq (fun a w => ∃ (v21 : Bool) (v22 : S_link_Link) (a23 : Option Addr) (c24 : Nat) (p25 : List Chunk) (b28 : Nat) (p29 : List Chunk) (w20 : List Chunk), law16_awake_k2 v21 v22 = some r ∧ Ctx 95 [(1, .pointer (some ⟨b8, 0, none⟩)), (31, .bool v21)] a ∧ Sat (Mem.add F w20) (p25 :: p29 :: [(b8, row [.int .i64 v22.window, .int .i64 v22.span, .int .i64 v22.room, .int .i64 v22.epoch, .int .i64 v22.now, .int .i64 v22.next, .int .i64 v22.acked, .int .i64 v22.sent, .slice a23 v22.out.length c24, .int .i64 v22.got, .map (some b28), .bool v22.owes] 74)] :: Φ) w ∧ OwnL 3 R_link_body (Mem.add F w20) 79 a23 c24 v22.out p25 ∧ OwnM (fun x : Int => Value.int .i64 x) (RV1 (RSl 1 (RInt .u8))) (Mem.add F w20) b28 v22.early p29) ?_ ?_
    · refine WC.region [(0, true), (1, true), (2, true), (3, true), (4, true), (5, true), (6, true), (7, true), (8, false), (9, false), (10, false), (11, false), (12, false), (13, false), (14, false), (15, false), (16, true), (17, true)] rfl ?_
      refine WO.move rfl rfl rfl rfl ?_
      refine WO.eqNil rfl rfl rfl rfl rfl Try.underlying27 ?_
      refine WO.move rfl rfl rfl rfl ?_
      refine WO.move rfl rfl rfl rfl ?_
      refine WO.bin rfl rfl rfl rfl rfl rfl ?_
      refine WO.pickF rfl rfl rfl rfl rfl ?_
      refine WO.move rfl rfl rfl rfl ?_
      refine WO.split (t := 20) rfl (fun hg180 => ?_) (fun hg180 => ?_)
      · have hr := cond_t hg180 hr
        refine WO.skip rfl rfl rfl rfl ?_
        refine WO.skipF rfl rfl rfl rfl ?_
        refine WO.skipF rfl rfl rfl rfl ?_
        refine WO.skipF rfl rfl rfl rfl ?_
        refine WO.skipF rfl rfl rfl rfl ?_
        refine WO.skipF rfl rfl rfl rfl ?_
        refine WO.skipF rfl rfl rfl rfl ?_
        refine WO.skipF rfl rfl rfl rfl ?_
        refine WO.skipF rfl rfl rfl rfl ?_
        refine WO.skip rfl rfl rfl rfl ?_
        refine WO.pickT rfl rfl rfl rfl rfl ?_
        refine WO.done ?_
        refine At.seq_at ?_
        exact fun a w hc hs => ⟨true, o3, a9, c10, p12, b14, p15, (List.flatten []), hr, (hc.keep (hc.keep hc.nil (t := 31) rfl) (t := 1) rfl), ((hs.arrange 0 3 [] [1, 2, 0] (by decide)).gather 0), (h11.mono mono_link_body (Mem.le_gather F 0)), (hm17.mono (monoV1 (mono_sl (mono_int _))) (Mem.le_gather F 0))⟩
      · have hr := cond_f hg180 hr
        refine WO.move rfl rfl rfl rfl ?_
        refine WO.buildSl (e := 5) (vs := [.const (.int .u8 97)]) [0] [.int .u8 97] rfl rfl rfl rfl rfl (fun _ => by kernel_rfl) (fun _ _ _ => trivial) (fun b181 => ?_)
        refine WO.mark 0 rfl rfl rfl rfl rfl Try.underlying38 Try.underlying5 (fun _ _ _ => trivial) (fun p183 hc184 => ?_)
        have h185 := RdL.ofInts (k := .u8) (xs := [97]) (c := 1) (hc184 F) rfl
        refine WO.buildSl (e := 5) (vs := [.const (.int .u8 98)]) [0] [.int .u8 98] rfl rfl rfl rfl rfl (fun _ => by kernel_rfl) (fun _ _ _ => trivial) (fun b186 => ?_)
        refine WO.mark 0 rfl rfl rfl rfl rfl Try.underlying38 Try.underlying5 (fun _ _ _ => trivial) (fun p188 hc189 => ?_)
        have h190 := RdL.ofInts (k := .u8) (xs := [98]) (c := 1) (hc189 F) rfl
        refine WO.buildSl (e := 5) (vs := [.const (.int .u8 99)]) [0] [.int .u8 99] rfl rfl rfl rfl rfl (fun _ => by kernel_rfl) (fun _ _ _ => trivial) (fun b191 => ?_)
        refine WO.mark 0 rfl rfl rfl rfl rfl Try.underlying38 Try.underlying5 (fun _ _ _ => trivial) (fun p193 hc194 => ?_)
        have h195 := RdL.ofInts (k := .u8) (xs := [99]) (c := 1) (hc194 F) rfl
        refine WO.buildSl (e := 38) (vs := [.tmp 23, .tmp 25, .tmp 27]) [0, 1, 2] [.slice (some ⟨b181, 0, none⟩) 1 1, .slice (some ⟨b186, 0, none⟩) 1 1, .slice (some ⟨b191, 0, none⟩) 1 1] rfl rfl rfl rfl rfl (fun _ => by kernel_rfl) (fun _ _ _ => trivial) (fun b196 => ?_)
        have ho198 : OwnL 1 (RSl 1 (RInt .u8)) (Mem.add (Mem.add (Mem.add F p183) p188) p193) 38 (some ⟨b196, 0, none⟩) 3 [[97], [98], [99]] [(b196, row [.slice (some ⟨b181, 0, none⟩) 1 1, .slice (some ⟨b186, 0, none⟩) 1 1, .slice (some ⟨b191, 0, none⟩) 1 1] 38)] := ⟨Nat.le_refl _, .inr ⟨_, [[.slice (some ⟨b181, 0, none⟩) 1 1], [.slice (some ⟨b186, 0, none⟩) 1 1], [.slice (some ⟨b191, 0, none⟩) 1 1]], [], rfl, rfl, (Rs.cons (x := [97]) (cs := [.slice (some ⟨b181, 0, none⟩) 1 1]) rfl ⟨_, _, rfl, (h185.mono (mono_int _) (Mem.le_pick (Mem.add (Mem.add (Mem.add F p183) p188) p193) 3 [2] (by decide)))⟩ rfl (Rs.cons (x := [98]) (cs := [.slice (some ⟨b186, 0, none⟩) 1 1]) rfl ⟨_, _, rfl, (h190.mono (mono_int _) (Mem.le_pick (Mem.add (Mem.add (Mem.add F p183) p188) p193) 3 [1] (by decide)))⟩ rfl (Rs.cons (x := [99]) (cs := [.slice (some ⟨b191, 0, none⟩) 1 1]) rfl ⟨_, _, rfl, (h195.mono (mono_int _) (Mem.le_pick (Mem.add (Mem.add (Mem.add F p183) p188) p193) 3 [0] (by decide)))⟩ rfl Rs.nil))), rfl⟩⟩
        obtain ⟨x200, hx201, hr⟩ := bind_some' hr
        refine WO.call rfl rfl rfl rfl rfl cl_13 (CallsRet.lay 3 4 4 [3, 0, 1, 2] [4, 5, 6] (by decide) (Mem.add F (List.flatten [[(b196, row [.slice (some ⟨b181, 0, none⟩) 1 1, .slice (some ⟨b186, 0, none⟩) 1 1, .slice (some ⟨b191, 0, none⟩) 1 1] 38)], p193, p188, p183])) ([(b8, row [.int .i64 o3.window, .int .i64 o3.span, .int .i64 o3.room, .int .i64 o3.epoch, .int .i64 o3.now, .int .i64 o3.next, .int .i64 o3.acked, .int .i64 o3.sent, .slice a9 o3.out.length c10, .int .i64 o3.got, .map (some b14), .bool o3.owes] 74)] :: p12 :: p15 :: Φ) rfl rfl (link_Link_Send_vvvvvvvvovmv_ok (F := F) (χ := (List.flatten [[(b196, row [.slice (some ⟨b181, 0, none⟩) 1 1, .slice (some ⟨b186, 0, none⟩) 1 1, .slice (some ⟨b191, 0, none⟩) 1 1] 38)], p193, p188, p183])) h11 hm17 ((ho198.rd (mono_sl (mono_int _))).mono (mono_sl (mono_int _)) (Mem.le_gather (Mem.add (Mem.add (Mem.add (Mem.add F p183) p188) p193) [(b196, row [.slice (some ⟨b181, 0, none⟩) 1 1, .slice (some ⟨b186, 0, none⟩) 1 1, .slice (some ⟨b191, 0, none⟩) 1 1] 38)]) 4)) hx201 (Φ))) ?_
        rintro _ _ ⟨q202, a203, c204, p206, b208, p209, rfl, hs212, h205, hm211⟩
        have hs212 := Sat.unlay1 F [[(b196, row [.slice (some ⟨b181, 0, none⟩) 1 1, .slice (some ⟨b186, 0, none⟩) 1 1, .slice (some ⟨b191, 0, none⟩) 1 1] 38)], p193, p188, p183] _ hs212
        have hs212 := (hs212.arrange 5 3 [0, 2, 3, 4] [6, 7, 1, 5] (by decide))
        refine ⟨(Mem.add (Mem.add (Mem.add (Mem.add F p183) p188) p193) q202), (p206 :: p209 :: [(b196, row [.slice (some ⟨b181, 0, none⟩) 1 1, .slice (some ⟨b186, 0, none⟩) 1 1, .slice (some ⟨b191, 0, none⟩) 1 1] 38)] :: [(b8, row [.int .i64 x200.2.window, .int .i64 x200.2.span, .int .i64 x200.2.room, .int .i64 x200.2.epoch, .int .i64 x200.2.now, .int .i64 x200.2.next, .int .i64 x200.2.acked, .int .i64 x200.2.sent, .slice a203 x200.2.out.length c204, .int .i64 x200.2.got, .map (some b208), .bool x200.2.owes] 74)] :: Φ), hs212, trivial, ?_⟩
        refine WO.bin rfl rfl rfl rfl rfl rfl ?_
        refine WO.pickF rfl rfl rfl rfl rfl ?_
        refine WO.done ?_
        refine At.seq_at ?_
        exact fun a w hc hs => ⟨(x200.1 != 0), x200.2, a203, c204, p206, b208, p209, (List.flatten [q202]), hr, (hc.keep (hc.keep hc.nil (t := 31) rfl) (t := 1) rfl), ((hs.arrange 4 4 [0] [4, 5, 7] (by decide)).gather 1), (h205.mono mono_link_body (Mem.le_gather (Mem.add F q202) 1)), (hm211.mono (monoV1 (mono_sl (mono_int _))) (Mem.le_gather (Mem.add F q202) 1))⟩
    · rintro a w ⟨v21, v22, a23, c24, p25, b28, p29, w20, hr, hc, hs, ho26, hm30⟩
      refine WC.use hc hs ?_
      clear hc hs
      unfold law16_awake_k2 at hr
      refine WC.cond rfl (fun hb32 => ?_) (fun hb32 => ?_)
      · have hr := cond_t hb32 hr
        refine WC.then ?_
        refine WC.region [(0, true)] rfl ?_
        refine WO.assign rfl rfl rfl rfl ?_
        refine WO.done ?_
        refine At.seq_wc ?_
        refine WC.ret ?_
        refine At.seq_ret ?_
        obtain rfl := Option.some.inj hr
        exact At.ret (fun a w hc hs => (resVs_cons (hc.res rfl) resVs_nil)) (fun w hs => ⟨rfl, (hs.arrange 1 3 [] [] (by decide))⟩)
      · have hr := cond_f hb32 hr
        refine WC.skip ?_
        refine At.seq_wc ?_
        refine WC.then ?_
        refine WC.region [(0, true), (1, false), (2, true), (3, false), (4, true), (5, false), (6, true), (7, false), (8, true), (9, true), (10, true), (11, true)] rfl ?_
        refine WO.move rfl rfl rfl rfl ?_
        obtain ⟨x33, hx34, hr⟩ := bind_some' hr
        refine WO.call rfl rfl rfl rfl rfl cl_16 (CallsRet.lay0 1 3 [0] [3, 1, 2] (by decide) (Mem.add F w20) ([(b8, row [.int .i64 v22.window, .int .i64 v22.span, .int .i64 v22.room, .int .i64 v22.epoch, .int .i64 v22.now, .int .i64 v22.next, .int .i64 v22.acked, .int .i64 v22.sent, .slice a23 v22.out.length c24, .int .i64 v22.got, .map (some b28), .bool v22.owes] 74)] :: p25 :: p29 :: Φ) rfl rfl (link_Link_Tick_vvvvvvvvovmv_ok (F := (Mem.add F w20)) ho26 hm30 hx34 (Φ))) ?_
        rintro _ _ ⟨q35, a36, c37, p39, a41, c42, p44, b46, p47, rfl, hs50, h38, h43, hm49⟩
        have hs50 := (hs50.arrange 2 4 [0, 1] [2, 4, 5, 3] (by decide))
        refine ⟨(Mem.add (Mem.add F w20) q35), (p39 :: p44 :: p47 :: [(b8, row [.int .i64 x33.2.window, .int .i64 x33.2.span, .int .i64 x33.2.room, .int .i64 x33.2.epoch, .int .i64 x33.2.now, .int .i64 x33.2.next, .int .i64 x33.2.acked, .int .i64 x33.2.sent, .slice a41 x33.2.out.length c42, .int .i64 x33.2.got, .map (some b46), .bool x33.2.owes] 74)] :: Φ), hs50, trivial, ?_⟩
        refine WO.move rfl rfl rfl rfl ?_
        obtain ⟨x51, hx52, hr⟩ := bind_some' hr
        refine WO.call rfl rfl rfl rfl rfl cl_16 (CallsRet.lay0 2 4 [0, 1] [5, 3, 4, 2] (by decide) (Mem.add (Mem.add F w20) q35) ([(b8, row [.int .i64 x33.2.window, .int .i64 x33.2.span, .int .i64 x33.2.room, .int .i64 x33.2.epoch, .int .i64 x33.2.now, .int .i64 x33.2.next, .int .i64 x33.2.acked, .int .i64 x33.2.sent, .slice a41 x33.2.out.length c42, .int .i64 x33.2.got, .map (some b46), .bool x33.2.owes] 74)] :: p44 :: p47 :: p39 :: Φ) rfl rfl (link_Link_Tick_vvvvvvvvovmv_ok (F := (Mem.add (Mem.add F w20) q35)) h43 hm49 hx52 (p39 :: Φ))) ?_
        rintro _ _ ⟨q53, a54, c55, p57, a59, c60, p62, b64, p65, rfl, hs68, h56, h61, hm67⟩
        have hs68 := (hs68.arrange 3 5 [0, 1, 2] [3, 5, 6, 7, 4] (by decide))
        refine ⟨(Mem.add (Mem.add (Mem.add F w20) q35) q53), (p57 :: p62 :: p65 :: p39 :: [(b8, row [.int .i64 x51.2.window, .int .i64 x51.2.span, .int .i64 x51.2.room, .int .i64 x51.2.epoch, .int .i64 x51.2.now, .int .i64 x51.2.next, .int .i64 x51.2.acked, .int .i64 x51.2.sent, .slice a59 x51.2.out.length c60, .int .i64 x51.2.got, .map (some b64), .bool x51.2.owes] 74)] :: Φ), hs68, trivial, ?_⟩
        refine WO.move rfl rfl rfl rfl ?_
        obtain ⟨x69, hx70, hr⟩ := bind_some' hr
        refine WO.call rfl rfl rfl rfl rfl cl_16 (CallsRet.lay0 3 5 [0, 1, 2] [7, 4, 5, 3, 6] (by decide) (Mem.add (Mem.add (Mem.add F w20) q35) q53) ([(b8, row [.int .i64 x51.2.window, .int .i64 x51.2.span, .int .i64 x51.2.room, .int .i64 x51.2.epoch, .int .i64 x51.2.now, .int .i64 x51.2.next, .int .i64 x51.2.acked, .int .i64 x51.2.sent, .slice a59 x51.2.out.length c60, .int .i64 x51.2.got, .map (some b64), .bool x51.2.owes] 74)] :: p62 :: p65 :: p57 :: p39 :: Φ) rfl rfl (link_Link_Tick_vvvvvvvvovmv_ok (F := (Mem.add (Mem.add (Mem.add F w20) q35) q53)) h61 hm67 hx70 (p57 :: p39 :: Φ))) ?_
        rintro _ _ ⟨q71, a72, c73, p75, a77, c78, p80, b82, p83, rfl, hs86, h74, h79, hm85⟩
        have hs86 := (hs86.arrange 4 6 [0, 1, 2, 3] [4, 6, 7, 8, 9, 5] (by decide))
        refine ⟨(Mem.add (Mem.add (Mem.add (Mem.add F w20) q35) q53) q71), (p75 :: p80 :: p83 :: p57 :: p39 :: [(b8, row [.int .i64 x69.2.window, .int .i64 x69.2.span, .int .i64 x69.2.room, .int .i64 x69.2.epoch, .int .i64 x69.2.now, .int .i64 x69.2.next, .int .i64 x69.2.acked, .int .i64 x69.2.sent, .slice a77 x69.2.out.length c78, .int .i64 x69.2.got, .map (some b82), .bool x69.2.owes] 74)] :: Φ), hs86, trivial, ?_⟩
        refine WO.move rfl rfl rfl rfl ?_
        obtain ⟨x87, hx88, hr⟩ := bind_some' hr
        refine WO.call rfl rfl rfl rfl rfl cl_16 (CallsRet.lay0 4 6 [0, 1, 2, 3] [9, 5, 6, 4, 7, 8] (by decide) (Mem.add (Mem.add (Mem.add (Mem.add F w20) q35) q53) q71) ([(b8, row [.int .i64 x69.2.window, .int .i64 x69.2.span, .int .i64 x69.2.room, .int .i64 x69.2.epoch, .int .i64 x69.2.now, .int .i64 x69.2.next, .int .i64 x69.2.acked, .int .i64 x69.2.sent, .slice a77 x69.2.out.length c78, .int .i64 x69.2.got, .map (some b82), .bool x69.2.owes] 74)] :: p80 :: p83 :: p75 :: p57 :: p39 :: Φ) rfl rfl (link_Link_Tick_vvvvvvvvovmv_ok (F := (Mem.add (Mem.add (Mem.add (Mem.add F w20) q35) q53) q71)) h79 hm85 hx88 (p75 :: p57 :: p39 :: Φ))) ?_
        rintro _ _ ⟨q89, a90, c91, p93, a95, c96, p98, b100, p101, rfl, hs104, h92, h97, hm103⟩
        have hs104 := (hs104.arrange 5 7 [0, 1, 2, 3, 4] [5, 7, 8, 9, 10, 11, 6] (by decide))
        refine ⟨(Mem.add (Mem.add (Mem.add (Mem.add (Mem.add F w20) q35) q53) q71) q89), (p93 :: p98 :: p101 :: p75 :: p57 :: p39 :: [(b8, row [.int .i64 x87.2.window, .int .i64 x87.2.span, .int .i64 x87.2.room, .int .i64 x87.2.epoch, .int .i64 x87.2.now, .int .i64 x87.2.next, .int .i64 x87.2.acked, .int .i64 x87.2.sent, .slice a95 x87.2.out.length c96, .int .i64 x87.2.got, .map (some b100), .bool x87.2.owes] 74)] :: Φ), hs104, trivial, ?_⟩
        refine WO.assign rfl rfl rfl rfl ?_
        refine WO.assign rfl rfl rfl rfl ?_
        refine WO.assign rfl rfl rfl rfl ?_
        refine WO.assign rfl rfl rfl rfl ?_
        refine WO.done ?_
        refine At.seq_wc ?_
        refine WC.then ?_
        refine WC.region [(0, true), (1, true), (2, false), (3, true), (4, true), (5, true), (6, true), (7, true)] rfl ?_
        refine WO.move rfl rfl rfl rfl ?_
        refine WO.build (vs := [.const (.int .i64 1)]) [2] (.agg (List.toArray [.int .i64 0, .int .i64 0, .int .i64 1, .slice none 0 0])) rfl rfl rfl rfl rfl (fun _ => by kernel_rfl) ?_
        obtain ⟨x105, hx106, hr⟩ := bind_some' hr
        refine WO.call rfl rfl rfl rfl rfl cl_18 (CallsRet.lay 5 7 0 [0, 1, 2, 3, 4] [11, 6, 7, 5, 8, 9, 10] (by decide) (Mem.add (Mem.add (Mem.add (Mem.add (Mem.add (Mem.add F w20) q35) q53) q71) q89) (List.flatten [])) ([(b8, row [.int .i64 x87.2.window, .int .i64 x87.2.span, .int .i64 x87.2.room, .int .i64 x87.2.epoch, .int .i64 x87.2.now, .int .i64 x87.2.next, .int .i64 x87.2.acked, .int .i64 x87.2.sent, .slice a95 x87.2.out.length c96, .int .i64 x87.2.got, .map (some b100), .bool x87.2.owes] 74)] :: p98 :: p101 :: p93 :: p75 :: p57 :: p39 :: Φ) rfl rfl (link_Link_Hear_vvvvvvvvovmv_ok (F := (Mem.add (Mem.add (Mem.add (Mem.add (Mem.add F w20) q35) q53) q71) q89)) (χ := (List.flatten [])) (p1 := (⟨0, 0, 1, []⟩ : S_api_Seg)) h97 hm103 ⟨_, _, rfl, RdL.nil⟩ hx106 (p93 :: p75 :: p57 :: p39 :: Φ))) ?_
        rintro _ _ ⟨q107, a108, c109, p111, a113, c114, p116, b118, p119, rfl, hs122, h110, h115, hm121⟩
        have hs122 := Sat.unlay1 (Mem.add (Mem.add (Mem.add (Mem.add (Mem.add F w20) q35) q53) q71) q89) [] _ hs122
        have hs122 := (hs122.arrange 6 8 [0, 1, 2, 3, 4, 5] [6, 8, 9, 10, 11, 12, 13, 7] (by decide))
        refine ⟨(Mem.add (Mem.add (Mem.add (Mem.add (Mem.add (Mem.add F w20) q35) q53) q71) q89) q107), (p111 :: p116 :: p119 :: p93 :: p75 :: p57 :: p39 :: [(b8, row [.int .i64 x105.2.2.window, .int .i64 x105.2.2.span, .int .i64 x105.2.2.room, .int .i64 x105.2.2.epoch, .int .i64 x105.2.2.now, .int .i64 x105.2.2.next, .int .i64 x105.2.2.acked, .int .i64 x105.2.2.sent, .slice a113 x105.2.2.out.length c114, .int .i64 x105.2.2.got, .map (some b118), .bool x105.2.2.owes] 74)] :: Φ), hs122, trivial, ?_⟩
        refine WO.move rfl rfl rfl rfl ?_
        refine WO.extract rfl rfl rfl rfl rfl ?_
        refine WO.extract rfl rfl rfl rfl rfl ?_
        refine WO.assign rfl rfl rfl rfl ?_
        refine WO.assign rfl rfl rfl rfl ?_
        refine WO.done ?_
        refine At.seq_wc ?_
        refine WC.then ?_
        refine WC.region [(0, true), (1, false), (2, true)] rfl ?_
        refine WO.move rfl rfl rfl rfl ?_
        obtain ⟨x123, hx124, hr⟩ := bind_some' hr
        refine WO.call rfl rfl rfl rfl rfl cl_16 (CallsRet.lay0 6 8 [0, 1, 2, 3, 4, 5] [13, 7, 8, 6, 9, 10, 11, 12] (by decide) (Mem.add (Mem.add (Mem.add (Mem.add (Mem.add (Mem.add F w20) q35) q53) q71) q89) q107) ([(b8, row [.int .i64 x105.2.2.window, .int .i64 x105.2.2.span, .int .i64 x105.2.2.room, .int .i64 x105.2.2.epoch, .int .i64 x105.2.2.now, .int .i64 x105.2.2.next, .int .i64 x105.2.2.acked, .int .i64 x105.2.2.sent, .slice a113 x105.2.2.out.length c114, .int .i64 x105.2.2.got, .map (some b118), .bool x105.2.2.owes] 74)] :: p116 :: p119 :: p111 :: p93 :: p75 :: p57 :: p39 :: Φ) rfl rfl (link_Link_Tick_vvvvvvvvovmv_ok (F := (Mem.add (Mem.add (Mem.add (Mem.add (Mem.add (Mem.add F w20) q35) q53) q71) q89) q107)) h115 hm121 hx124 (p111 :: p93 :: p75 :: p57 :: p39 :: Φ))) ?_
        rintro _ _ ⟨q125, a126, c127, p129, a131, c132, p134, b136, p137, rfl, hs140, h128, h133, hm139⟩
        have hs140 := (hs140.arrange 7 9 [0, 1, 2, 3, 4, 5, 6] [7, 9, 10, 11, 12, 13, 14, 15, 8] (by decide))
        refine ⟨(Mem.add (Mem.add (Mem.add (Mem.add (Mem.add (Mem.add (Mem.add F w20) q35) q53) q71) q89) q107) q125), (p129 :: p134 :: p137 :: p111 :: p93 :: p75 :: p57 :: p39 :: [(b8, row [.int .i64 x123.2.window, .int .i64 x123.2.span, .int .i64 x123.2.room, .int .i64 x123.2.epoch, .int .i64 x123.2.now, .int .i64 x123.2.next, .int .i64 x123.2.acked, .int .i64 x123.2.sent, .slice a131 x123.2.out.length c132, .int .i64 x123.2.got, .map (some b136), .bool x123.2.owes] 74)] :: Φ), hs140, trivial, ?_⟩
        refine WO.assign rfl rfl rfl rfl ?_
        refine WO.done ?_
        refine At.seq_wc ?_
        refine WC.seq (fun a w => ∃ (v142 : Bool), law16_awake_k3 v142 = some r ∧ Ctx 95 [(0, .bool v142)] a ∧ Sat (Mem.add (Mem.add (Mem.add (Mem.add (Mem.add (Mem.add (Mem.add F w20) q35) q53) q71) q89) q107) q125) (p129 :: p134 :: p137 :: p111 :: p93 :: p75 :: p57 :: p39 :: [(b8, row [.int .i64 x123.2.window, .int .i64 x123.2.span, .int .i64 x123.2.room, .int .i64 x123.2.epoch, .int .i64 x123.2.now, .int .i64 x123.2.next, .int .i64 x123.2.acked, .int .i64 x123.2.sent, .slice a131 x123.2.out.length c132, .int .i64 x123.2.got, .map (some b136), .bool x123.2.owes] 74)] :: Φ) w) ?_ ?_
        · refine WC.region [(0, true), (1, true), (2, true), (3, true), (4, true), (5, true), (6, true), (7, true), (8, true), (9, true), (10, true), (11, true), (12, true), (13, true), (14, true), (15, true), (16, true), (17, true), (18, true), (19, true), (20, false), (21, true), (22, true), (23, true), (24, true), (25, true), (26, true), (27, false), (28, false), (29, true), (30, true), (31, true), (32, true), (33, true), (34, true), (35, true), (36, true), (37, true), (38, true), (39, true), (40, true), (41, true), (42, true), (43, true), (44, false), (45, true), (46, true), (47, true)] rfl ?_
          refine WO.move rfl rfl rfl rfl ?_
          refine WO.len rfl rfl rfl rfl Try.underlying29 ?_
          refine WO.bin rfl rfl rfl rfl rfl rfl ?_
          refine WO.move rfl rfl rfl rfl ?_
          refine WO.split (t := 51) rfl (fun hg143 => ?_) (fun hg143 => ?_)
          · have hr := cond_t hg143 hr
            refine WO.move rfl rfl rfl rfl ?_
            refine WO.len rfl rfl rfl rfl Try.underlying29 ?_
            refine WO.move rfl rfl rfl rfl ?_
            refine WO.len rfl rfl rfl rfl Try.underlying29 ?_
            refine WO.bin rfl rfl rfl rfl rfl rfl ?_
            refine WO.bin rfl rfl rfl rfl rfl rfl ?_
            refine WO.pickT rfl rfl rfl rfl rfl ?_
            refine WO.move rfl rfl rfl rfl ?_
            refine WO.split (t := 59) rfl (fun hg144 => ?_) (fun hg144 => ?_)
            · have hr := cond_t hg144 hr
              refine WO.move rfl rfl rfl rfl ?_
              refine WO.len rfl rfl rfl rfl Try.underlying29 ?_
              refine WO.bin rfl rfl rfl rfl rfl rfl ?_
              refine WO.pickT rfl rfl rfl rfl rfl ?_
              refine WO.move rfl rfl rfl rfl ?_
              refine WO.split (t := 64) rfl (fun hg145 => ?_) (fun hg145 => ?_)
              · have hr := cond_t hg145 hr
                refine WO.move rfl rfl rfl rfl ?_
                obtain ⟨x146, hx147, hr⟩ := bind_some' hr
                refine WO.indexQ h92 hx147 rfl rfl rfl rfl rfl rfl Try.underlying29 sz_46 (fun b148 cs149 hb150 h151 hq152 => ?_)
                subst hb150
                obtain ⟨a153, c154, rfl, h155⟩ := h151
                refine WO.fieldAddr 1 rfl rfl rfl rfl fl_46_1 ?_
                refine WO.loadQ 4 1 hq152 rfl rfl rfl rfl rfl rfl sc_3 rfl ?_
                refine WO.bin rfl rfl rfl rfl rfl rfl ?_
                refine WO.pickT rfl rfl rfl rfl rfl ?_
                refine WO.move rfl rfl rfl rfl ?_
                refine WO.split (t := 71) rfl (fun hg156 => ?_) (fun hg156 => ?_)
                · have hr := cond_t hg156 hr
                  refine WO.move rfl rfl rfl rfl ?_
                  obtain ⟨x157, hx158, hr⟩ := bind_some' hr
                  refine WO.indexQ h92 hx158 rfl rfl rfl rfl rfl rfl Try.underlying29 sz_46 (fun b159 cs160 hb161 h162 hq163 => ?_)
                  obtain rfl : b148 = b159 := by cases hb161; rfl
                  obtain ⟨a164, c165, rfl, h166⟩ := h162
                  refine WO.fieldAddr 3 rfl rfl rfl rfl fl_46_3 ?_
                  refine WO.loadQ 4 3 hq163 rfl rfl rfl rfl rfl rfl sc_38 rfl ?_
                  refine WO.str (xs := x157.Body) h166 (Mem.le_pick (Mem.add (Mem.add (Mem.add (Mem.add (Mem.add (Mem.add (Mem.add F w20) q35) q53) q71) q89) q107) q125) 7 [2, 3, 4, 5, 6] (by decide)) rfl rfl rfl rfl rfl Try.underlying38 Try.underlying5 Try.underlying9 ?_
                  refine WO.eqStr rfl rfl rfl rfl rfl Try.underlying9 ?_
                  refine WO.pickT rfl rfl rfl rfl rfl ?_
                  refine WO.move rfl rfl rfl rfl ?_
                  refine WO.split (t := 79) rfl (fun hg167 => ?_) (fun hg167 => ?_)
                  · have hr := cond_t hg167 hr
                    refine WO.move rfl rfl rfl rfl ?_
                    refine WO.bin rfl rfl rfl rfl rfl rfl ?_
                    refine WO.pickT rfl rfl rfl rfl rfl ?_
                    refine WO.move rfl rfl rfl rfl ?_
                    refine WO.split (t := 83) rfl (fun hg168 => ?_) (fun hg168 => ?_)
                    · have hr := cond_t hg168 hr
                      refine WO.move rfl rfl rfl rfl ?_
                      refine WO.len rfl rfl rfl rfl Try.underlying29 ?_
                      refine WO.bin rfl rfl rfl rfl rfl rfl ?_
                      refine WO.pickT rfl rfl rfl rfl rfl ?_
                      refine WO.move rfl rfl rfl rfl ?_
                      refine WO.split (t := 88) rfl (fun hg169 => ?_) (fun hg169 => ?_)
                      · have hr := cond_t hg169 hr
                        refine WO.move rfl rfl rfl rfl ?_
                        obtain ⟨x170, hx171, hr⟩ := bind_some' hr
                        refine WO.indexQ h128 hx171 rfl rfl rfl rfl rfl rfl Try.underlying29 sz_46 (fun b172 cs173 hb174 h175 hq176 => ?_)
                        subst hb174
                        obtain ⟨a177, c178, rfl, h179⟩ := h175
                        refine WO.fieldAddr 1 rfl rfl rfl rfl fl_46_1 ?_
                        refine WO.loadQ 0 1 hq176 rfl rfl rfl rfl rfl rfl sc_3 rfl ?_
                        refine WO.bin rfl rfl rfl rfl rfl rfl ?_
                        refine WO.pickT rfl rfl rfl rfl rfl ?_
                        refine WO.assign rfl rfl rfl rfl ?_
                        refine WO.done ?_
                        refine At.seq_at ?_
                        exact fun a w hc hs => ⟨(x170.Seq == 3), hr, (hc.keep hc.nil (t := 0) rfl), hs⟩
                      · have hr := cond_f hg169 hr
                        refine WO.skip rfl rfl rfl rfl ?_
                        refine WO.skip rfl rfl rfl rfl ?_
                        refine WO.skip rfl rfl rfl rfl ?_
                        refine WO.skipF rfl rfl rfl rfl ?_
                        refine WO.skip rfl rfl rfl rfl ?_
                        refine WO.pickF rfl rfl rfl rfl rfl ?_
                        refine WO.assign rfl rfl rfl rfl ?_
                        refine WO.done ?_
                        refine At.seq_at ?_
                        exact fun a w hc hs => ⟨false, hr, (hc.keep hc.nil (t := 0) rfl), hs⟩
                    · have hr := cond_f hg168 hr
                      refine WO.skip rfl rfl rfl rfl ?_
                      refine WO.skip rfl rfl rfl rfl ?_
                      refine WO.skip rfl rfl rfl rfl ?_
                      refine WO.pickF rfl rfl rfl rfl rfl ?_
                      refine WO.move rfl rfl rfl rfl ?_
                      refine WO.skip rfl rfl rfl rfl ?_
                      refine WO.skip rfl rfl rfl rfl ?_
                      refine WO.skip rfl rfl rfl rfl ?_
                      refine WO.skipF rfl rfl rfl rfl ?_
                      refine WO.skip rfl rfl rfl rfl ?_
                      refine WO.pickF rfl rfl rfl rfl rfl ?_
                      refine WO.assign rfl rfl rfl rfl ?_
                      refine WO.done ?_
                      refine At.seq_at ?_
                      exact fun a w hc hs => ⟨false, hr, (hc.keep hc.nil (t := 0) rfl), hs⟩
                  · have hr := cond_f hg167 hr
                    refine WO.skip rfl rfl rfl rfl ?_
                    refine WO.skip rfl rfl rfl rfl ?_
                    refine WO.pickF rfl rfl rfl rfl rfl ?_
                    refine WO.move rfl rfl rfl rfl ?_
                    refine WO.skip rfl rfl rfl rfl ?_
                    refine WO.skip rfl rfl rfl rfl ?_
                    refine WO.skip rfl rfl rfl rfl ?_
                    refine WO.pickF rfl rfl rfl rfl rfl ?_
                    refine WO.move rfl rfl rfl rfl ?_
                    refine WO.skip rfl rfl rfl rfl ?_
                    refine WO.skip rfl rfl rfl rfl ?_
                    refine WO.skip rfl rfl rfl rfl ?_
                    refine WO.skipF rfl rfl rfl rfl ?_
                    refine WO.skip rfl rfl rfl rfl ?_
                    refine WO.pickF rfl rfl rfl rfl rfl ?_
                    refine WO.assign rfl rfl rfl rfl ?_
                    refine WO.done ?_
                    refine At.seq_at ?_
                    exact fun a w hc hs => ⟨false, hr, (hc.keep hc.nil (t := 0) rfl), hs⟩
                · have hr := cond_f hg156 hr
                  refine WO.skip rfl rfl rfl rfl ?_
                  refine WO.skip rfl rfl rfl rfl ?_
                  refine WO.skip rfl rfl rfl rfl ?_
                  refine WO.skipF rfl rfl rfl rfl ?_
                  refine WO.skipF rfl rfl rfl rfl ?_
                  refine WO.skip rfl rfl rfl rfl ?_
                  refine WO.pickF rfl rfl rfl rfl rfl ?_
                  refine WO.move rfl rfl rfl rfl ?_
                  refine WO.skip rfl rfl rfl rfl ?_
                  refine WO.skip rfl rfl rfl rfl ?_
                  refine WO.pickF rfl rfl rfl rfl rfl ?_
                  refine WO.move rfl rfl rfl rfl ?_
                  refine WO.skip rfl rfl rfl rfl ?_
                  refine WO.skip rfl rfl rfl rfl ?_
                  refine WO.skip rfl rfl rfl rfl ?_
                  refine WO.pickF rfl rfl rfl rfl rfl ?_
                  refine WO.move rfl rfl rfl rfl ?_
                  refine WO.skip rfl rfl rfl rfl ?_
                  refine WO.skip rfl rfl rfl rfl ?_
                  refine WO.skip rfl rfl rfl rfl ?_
                  refine WO.skipF rfl rfl rfl rfl ?_
                  refine WO.skip rfl rfl rfl rfl ?_
                  refine WO.pickF rfl rfl rfl rfl rfl ?_
                  refine WO.assign rfl rfl rfl rfl ?_
                  refine WO.done ?_
                  refine At.seq_at ?_
                  exact fun a w hc hs => ⟨false, hr, (hc.keep hc.nil (t := 0) rfl), hs⟩
              · have hr := cond_f hg145 hr
                refine WO.skip rfl rfl rfl rfl ?_
                refine WO.skip rfl rfl rfl rfl ?_
                refine WO.skip rfl rfl rfl rfl ?_
                refine WO.skipF rfl rfl rfl rfl ?_
                refine WO.skip rfl rfl rfl rfl ?_
                refine WO.pickF rfl rfl rfl rfl rfl ?_
                refine WO.move rfl rfl rfl rfl ?_
                refine WO.skip rfl rfl rfl rfl ?_
                refine WO.skip rfl rfl rfl rfl ?_
                refine WO.skip rfl rfl rfl rfl ?_
                refine WO.skipF rfl rfl rfl rfl ?_
                refine WO.skipF rfl rfl rfl rfl ?_
                refine WO.skip rfl rfl rfl rfl ?_
                refine WO.pickF rfl rfl rfl rfl rfl ?_
                refine WO.move rfl rfl rfl rfl ?_
                refine WO.skip rfl rfl rfl rfl ?_
                refine WO.skip rfl rfl rfl rfl ?_
                refine WO.pickF rfl rfl rfl rfl rfl ?_
                refine WO.move rfl rfl rfl rfl ?_
                refine WO.skip rfl rfl rfl rfl ?_
                refine WO.skip rfl rfl rfl rfl ?_
                refine WO.skip rfl rfl rfl rfl ?_
                refine WO.pickF rfl rfl rfl rfl rfl ?_
                refine WO.move rfl rfl rfl rfl ?_
                refine WO.skip rfl rfl rfl rfl ?_
                refine WO.skip rfl rfl rfl rfl ?_
                refine WO.skip rfl rfl rfl rfl ?_
                refine WO.skipF rfl rfl rfl rfl ?_
                refine WO.skip rfl rfl rfl rfl ?_
                refine WO.pickF rfl rfl rfl rfl rfl ?_
                refine WO.assign rfl rfl rfl rfl ?_
                refine WO.done ?_
                refine At.seq_at ?_
                exact fun a w hc hs => ⟨false, hr, (hc.keep hc.nil (t := 0) rfl), hs⟩
            · have hr := cond_f hg144 hr
              refine WO.skip rfl rfl rfl rfl ?_
              refine WO.skip rfl rfl rfl rfl ?_
              refine WO.skip rfl rfl rfl rfl ?_
              refine WO.pickF rfl rfl rfl rfl rfl ?_
              refine WO.move rfl rfl rfl rfl ?_
              refine WO.skip rfl rfl rfl rfl ?_
              refine WO.skip rfl rfl rfl rfl ?_
              refine WO.skip rfl rfl rfl rfl ?_
              refine WO.skipF rfl rfl rfl rfl ?_
              refine WO.skip rfl rfl rfl rfl ?_
              refine WO.pickF rfl rfl rfl rfl rfl ?_
              refine WO.move rfl rfl rfl rfl ?_
              refine WO.skip rfl rfl rfl rfl ?_
              refine WO.skip rfl rfl rfl rfl ?_
              refine WO.skip rfl rfl rfl rfl ?_
              refine WO.skipF rfl rfl rfl rfl ?_
              refine WO.skipF rfl rfl rfl rfl ?_
              refine WO.skip rfl rfl rfl rfl ?_
              refine WO.pickF rfl rfl rfl rfl rfl ?_
              refine WO.move rfl rfl rfl rfl ?_
              refine WO.skip rfl rfl rfl rfl ?_
              refine WO.skip rfl rfl rfl rfl ?_
              refine WO.pickF rfl rfl rfl rfl rfl ?_
              refine WO.move rfl rfl rfl rfl ?_
              refine WO.skip rfl rfl rfl rfl ?_
              refine WO.skip rfl rfl rfl rfl ?_
              refine WO.skip rfl rfl rfl rfl ?_
              refine WO.pickF rfl rfl rfl rfl rfl ?_
              refine WO.move rfl rfl rfl rfl ?_
              refine WO.skip rfl rfl rfl rfl ?_
              refine WO.skip rfl rfl rfl rfl ?_
              refine WO.skip rfl rfl rfl rfl ?_
              refine WO.skipF rfl rfl rfl rfl ?_
              refine WO.skip rfl rfl rfl rfl ?_
              refine WO.pickF rfl rfl rfl rfl rfl ?_
              refine WO.assign rfl rfl rfl rfl ?_
              refine WO.done ?_
              refine At.seq_at ?_
              exact fun a w hc hs => ⟨false, hr, (hc.keep hc.nil (t := 0) rfl), hs⟩
          · have hr := cond_f hg143 hr
            refine WO.skip rfl rfl rfl rfl ?_
            refine WO.skip rfl rfl rfl rfl ?_
            refine WO.skip rfl rfl rfl rfl ?_
            refine WO.skip rfl rfl rfl rfl ?_
            refine WO.skip rfl rfl rfl rfl ?_
            refine WO.skip rfl rfl rfl rfl ?_
            refine WO.pickF rfl rfl rfl rfl rfl ?_
            refine WO.move rfl rfl rfl rfl ?_
            refine WO.skip rfl rfl rfl rfl ?_
            refine WO.skip rfl rfl rfl rfl ?_
            refine WO.skip rfl rfl rfl rfl ?_
            refine WO.pickF rfl rfl rfl rfl rfl ?_
            refine WO.move rfl rfl rfl rfl ?_
            refine WO.skip rfl rfl rfl rfl ?_
            refine WO.skip rfl rfl rfl rfl ?_
            refine WO.skip rfl rfl rfl rfl ?_
            refine WO.skipF rfl rfl rfl rfl ?_
            refine WO.skip rfl rfl rfl rfl ?_
            refine WO.pickF rfl rfl rfl rfl rfl ?_
            refine WO.move rfl rfl rfl rfl ?_
            refine WO.skip rfl rfl rfl rfl ?_
            refine WO.skip rfl rfl rfl rfl ?_
            refine WO.skip rfl rfl rfl rfl ?_
            refine WO.skipF rfl rfl rfl rfl ?_
            refine WO.skipF rfl rfl rfl rfl ?_
            refine WO.skip rfl rfl rfl rfl ?_
            refine WO.pickF rfl rfl rfl rfl rfl ?_
            refine WO.move rfl rfl rfl rfl ?_
            refine WO.skip rfl rfl rfl rfl ?_
            refine WO.skip rfl rfl rfl rfl ?_
            refine WO.pickF rfl rfl rfl rfl rfl ?_
            refine WO.move rfl rfl rfl rfl ?_
            refine WO.skip rfl rfl rfl rfl ?_
            refine WO.skip rfl rfl rfl rfl ?_
            refine WO.skip rfl rfl rfl rfl ?_
            refine WO.pickF rfl rfl rfl rfl rfl ?_
            refine WO.move rfl rfl rfl rfl ?_
            refine WO.skip rfl rfl rfl rfl ?_
            refine WO.skip rfl rfl rfl rfl ?_
            refine WO.skip rfl rfl rfl rfl ?_
            refine WO.skipF rfl rfl rfl rfl ?_
            refine WO.skip rfl rfl rfl rfl ?_
            refine WO.pickF rfl rfl rfl rfl rfl ?_
            refine WO.assign rfl rfl rfl rfl ?_
            refine WO.done ?_
            refine At.seq_at ?_
            exact fun a w hc hs => ⟨false, hr, (hc.keep hc.nil (t := 0) rfl), hs⟩
        · rintro a w ⟨v142, hr, hc, hs⟩
          refine WC.use hc hs ?_
          clear hc hs
          unfold law16_awake_k3 at hr
          refine WC.ret ?_
          obtain rfl := Option.some.inj hr
          exact At.ret (fun a w hc hs => (resVs_cons (hc.res rfl) resVs_nil)) (fun w hs => ⟨rfl, (hs.arrange 7 9 [] [] (by decide))⟩)
end
end Go.Pel
